/- Many entries of one print (plain). -/
import Derived.Test.YtggachhkcmfijaaGreatDoorQc
set_option linter.unusedVariables false
namespace Go.Proofs.YtggachhkcmfijaaGreatDoor
open Go Go.Vc Go.RowKit Go.Lib Go.Maps
/-- entries of one print, whose places rise from c on -/
def upE (k : Int) (s : Bs) (c n : Nat) : List Ey := (List.range' c (n + 1 - c)).map fun i : Nat => ⟨k, s, (i : Int)⟩
section
variable {k : Int} {s : Bs} {c n : Nat}
theorem upE_cons (h : c ≤ n) : upE k s c n = ⟨k, s, (c : Int)⟩ :: upE k s (c + 1) n := by
 unfold upE
 have e : n + 1 - c = (n + 1 - (c + 1)) + 1 := by omega
 rw [e, List.range'_succ, List.map_cons]
theorem upE_nil (h : n < c) : upE k s c n = [] := by
 unfold upE
 have e : n + 1 - c = 0 := by omega
 rw [e]; rfl
theorem upE_mem {x : Ey} : x ∈ upE k s c n ↔ ∃ i : Nat, c ≤ i ∧ i ≤ n ∧ x = ⟨k, s, (i : Int)⟩ := by
 unfold upE
 rw [List.mem_map]
 constructor
 · rintro ⟨i, hi, rfl⟩
   rw [List.mem_range'_1] at hi
   exact ⟨i, hi.1, by omega, rfl⟩
 · rintro ⟨i, h1, h2, rfl⟩
   exact ⟨i, by rw [List.mem_range'_1]; omega, rfl⟩
theorem upE_len : (upE k s c n).length = n + 1 - c := by simp [upE]
theorem upE_ins (h : c ≤ n) : insE (upE k s (c + 1) n) ⟨k, s, (c : Int)⟩ = upE k s c n := by
 have h0 : cntE (upE k s (c + 1) n) ⟨k, s, (c : Int)⟩ = 0 := List.countP_eq_zero.2 fun y hy => by
   obtain ⟨i, h1, h2, rfl⟩ := upE_mem.1 hy
   simp only [decide_eq_true_eq]
   unfold ltE
   rintro (h | ⟨_, h | ⟨_, h⟩⟩)
   · exact absurd h (Int.lt_irrefl _)
   · exact bs_irrefl _ h
   · have h : (i : Int) < (c : Int) := h
     omega
 unfold insE
 rw [h0, List.take_zero, List.drop_zero, List.nil_append, upE_cons h]
theorem upE_add (ho : ∀ i : Nat, 1 ≤ i → i ≤ n → okE ⟨k, s, (i : Int)⟩) (hn : n ≤ 1000) : ∀ m c, c + m = n + 1 → 1 ≤ c → allF addS [] (upE k s c n).reverse = (upE k s c n, 0)
 | 0, c, h, _ => by rw [upE_nil (by omega)]; rfl
 | m + 1, c, h, h1 => by
   have ih := upE_add ho hn m (c + 1) (by omega) (by omega)
   rw [upE_cons (by omega), List.reverse_cons]
   unfold allF at ih ⊢
   rw [List.foldl_append, ih]
   show addS (upE k s (c + 1) n, 0) ⟨k, s, (c : Int)⟩ = _
   unfold addS
   rw [if_neg (by simp), if_neg (fun h => h (ho c h1 (by omega))), if_neg (fun hm => ?_), if_neg (by show ¬ 1500 ≤ (upE k s (c + 1) n).length; rw [upE_len]; omega), upE_ins (by omega), ← upE_cons (by omega)]
   obtain ⟨i, i1, i2, i3⟩ := upE_mem.1 hm
   have := congrArg Ey.a i3
   simp only at this
   omega
theorem upE_find (k' : Int) (s' : Bs) : findE (upE k s c n) k' s' = if k = k' ∧ s = s' then (List.range' c (n + 1 - c)).map (fun i : Nat => (i : Int)) else [] := by
 unfold findE upE
 rw [List.filter_map, List.map_map]
 split
 · rename_i h
   obtain ⟨rfl, rfl⟩ := h
   rw [List.filter_eq_self.2 (fun a _ => by simp)]
   rfl
 · rename_i h
   rw [List.filter_eq_nil_iff.2 (fun a _ => by simpa using h)]
   rfl
end
end Go.Proofs.YtggachhkcmfijaaGreatDoor

/- Trees: what is looked at, and found (plain). -/
set_option linter.unusedVariables false
namespace Go.Proofs.YtggachhkcmfijaaGreatDoor
open Go Go.Vc Go.RowKit Go.Lib Go.Maps
theorem keys_flat : ∀ {d : Nat} {A : Nd d}, Bd d A → ∀ x ∈ A.l, x ∈ flat d A
 | 0, A, h, x, hx => hx
 | d + 1, A, h, x, hx => by
   rw [h.1] at hx
   obtain ⟨k, hk, rfl⟩ := List.mem_map.1 hx
   obtain ⟨h1, h2, _⟩ := h.2.1 k hk
   obtain ⟨a1, a2⟩ := Bd.hd h1 (fun e => by rw [e] at h2; simp at h2)
   refine List.mem_flatMap.2 ⟨k, hk, ?_⟩
   rw [← a2]
   exact hdE_mem a1
theorem Bd.keys : ∀ {d : Nat} {A : Nd d}, Bd d A → Srt A.l
 | 0, A, h => h.1
 | d + 1, A, h => by rw [h.1]; exact (KidsOk.of h).keys
theorem Bd.okl : ∀ {d : Nat} {A : Nd d}, Bd d A → ∀ x ∈ A.l, okE x := fun h x hx => h.ok x (keys_flat h x hx)
theorem cmpP_gt (a b : Int) (s u : Bs) : (if ci a b ≠ 0 then ci a b else cs' s u) > 0 ↔ ltP b u a s := by
 unfold ci cs' ltP
 rcases Int.lt_trichotomy a b with h | h | h
 · rw [if_pos h, if_pos (by decide)]
   constructor
   · intro h; exact absurd h (by decide)
   · rintro (h2 | ⟨h2, _⟩) <;> omega
 · subst h
   rw [if_neg (Int.lt_irrefl a), if_pos rfl, if_neg (by simp)]
   rcases bs_total s u with h | h | h
   · rw [if_pos h]
     constructor
     · intro h; exact absurd h (by decide)
     · rintro (h2 | ⟨_, h2⟩)
       · omega
       · exact absurd (bs_trans h h2) (bs_irrefl _)
   · subst h
     rw [if_neg (bs_irrefl s), if_pos rfl]
     constructor
     · intro h; exact absurd h (by decide)
     · rintro (h2 | ⟨_, h2⟩)
       · omega
       · exact absurd h2 (bs_irrefl _)
   · rw [if_neg (fun k => bs_irrefl _ (bs_trans h k)), if_neg (fun e => bs_irrefl u (by rw [e] at h; exact h))]
     exact ⟨fun _ => .inr ⟨rfl, h⟩, fun _ => by decide⟩
 · rw [if_neg (show ¬ a < b by omega), if_neg (show ¬ a = b by omega), if_pos (by decide)]
   exact ⟨fun _ => .inl h, fun _ => by decide⟩
theorem cmpP_lt (a b : Int) (s u : Bs) : (if ci a b ≠ 0 then ci a b else cs' s u) < 0 ↔ ltP a s b u := by
 unfold ci cs' ltP
 rcases Int.lt_trichotomy a b with h | h | h
 · rw [if_pos h, if_pos (by decide)]
   exact ⟨fun _ => .inl h, fun _ => by decide⟩
 · subst h
   rw [if_neg (Int.lt_irrefl a), if_pos rfl, if_neg (by simp)]
   rcases bs_total s u with h | h | h
   · rw [if_pos h]
     exact ⟨fun _ => .inr ⟨rfl, h⟩, fun _ => by decide⟩
   · subst h
     rw [if_neg (bs_irrefl s), if_pos rfl]
     constructor
     · intro h; exact absurd h (by decide)
     · rintro (h2 | ⟨_, h2⟩)
       · omega
       · exact absurd h2 (bs_irrefl _)
   · rw [if_neg (fun k => bs_irrefl _ (bs_trans h k)), if_neg (fun e => bs_irrefl u (by rw [e] at h; exact h))]
     constructor
     · intro h; exact absurd h (by decide)
     · rintro (h2 | ⟨_, h2⟩)
       · omega
       · exact absurd (bs_trans h h2) (bs_irrefl _)
 · rw [if_neg (show ¬ a < b by omega), if_neg (show ¬ a = b by omega), if_pos (by decide)]
   constructor
   · intro h; exact absurd h (by decide)
   · rintro (h2 | ⟨h2, _⟩) <;> omega
end Go.Proofs.YtggachhkcmfijaaGreatDoor

/- Trees: a part is laid. -/
set_option linter.unusedVariables false
namespace Go.Proofs.YtggachhkcmfijaaGreatDoor
open Go Go.Vc Go.RowKit Go.Lib Go.Maps
theorem byte_one {n : Nat} (h : n ≤ 255) : [(n : Int)].flatMap (leBytes 1) = [UInt8.ofNat n] := by
 simp only [List.flatMap_cons, List.flatMap_nil, List.append_nil, leBytes, List.range_succ, List.range_zero, List.nil_append, List.map_cons, List.map_nil, leByte_nat, Nat.pow_zero, Nat.div_one]
 rw [Nat.mod_eq_of_lt (by omega)]
section
variable {w : World} {Y : List As}
set_option maxHeartbeats 4000000 in
theorem encode_gen {lf : Bool} {ls : List Ey} {ats : List Int} {l k : Sl} {g : Nat} (h : St w Y)
   (hn : ∀ w', St w' Y → w'.cell? ((blk g).add 2) = some (.bool lf) ∧ w'.cell? ((blk g).add 4) = some (.slice l.a l.len l.cap) ∧ w'.cell? ((blk g).add 5) = some (.slice k.a k.len k.cap))
   (hx : ∀ w', St w' Y → Has EE w' l ls) (ho : ∀ x ∈ ls, okE x) (hl : ls.length ≤ 100) (hlen : lf = false → ats.length = ls.length) (hat : ∀ a ∈ ats, 0 ≤ a ∧ a < 65536)
   (hk : lf = false → ∀ w', St w' Y → ∀ (i : Nat) (hi : i < ats.length), ∃ ad c, k.a = some ad ∧ i < k.len ∧ w'.cell? (ad.add (i * 1)) = some (.pointer (some c)) ∧ w'.cell? c = some (.int .i64 ats[i]))
   {R : ByteArray → World → Prop} (hR : ∀ w', St w' Y → R (tx (encB lf ls ats)) w') : F.tree_node_encode (some (blk g)) w R := by
 apply E.tree_node_encode
 unfold V.tree_node_encode
 try simp -zeta only [ldC, soC, brC, bkA, slC, cnd_all, blk_add2, Nat.reduceAdd]
 refine St.al h fun wa1 q => ?_
 generalize w.heap.size = og at *
 have q := OutS.of q
 have hl3 := (hx w h).1
 have hrl : ∀ j, (rowB lf ls ats j).length ≤ 37 * ls.length := fun j => by
   have hz : ∀ n, n ≤ ls.length → (rowB lf ls ats n).length ≤ 37 * n := fun n => by
     induction n with
     | zero => intro _; rw [rowB_zero]; simp
     | succ n ih =>
       intro hn
       have h1 := ih (by omega)
       have h2 := (ho _ (List.getElem_mem (by omega : n < ls.length))).layl
       have h3 : (tailB lf ats[n]?).length ≤ 2 := by
         cases lf with
         | true => exact Nat.zero_le _
         | false => show (leBytes 2 _).length ≤ 2; rw [leBytes_len]; exact Nat.le_refl _
       rw [rowB_succ (by omega) hlen, List.length_append, List.length_append, List.length_append, h2, leBytes_len]
       omega
   rcases Nat.le_total j ls.length with h | h
   · have := hz j h; omega
   · have e : rowB lf ls ats j = rowB lf ls ats ls.length := by
       cases lf with
       | true => show (ls.take j).flatMap encE = (ls.take ls.length).flatMap encE; rw [List.take_of_length_le h, List.take_length]
       | false => show ((ls.zip ats).take j).flatMap _ = ((ls.zip ats).take ls.length).flatMap _; rw [List.take_of_length_le (by rw [List.length_zip]; omega), List.take_of_length_le (by rw [List.length_zip]; omega)]
     rw [e]; exact hz _ (Nat.le_refl _)
 refine ⟨fun w' => St w' (OutS og [lfB lf] :: Y), ⟨_, (hn _ q.drop).1, fun ht => ?_, fun hf => ?_⟩, ?_⟩
 · refine St.al q fun wa2 q => ?_
   refine OutS.byte (vs := [1]) q.sw (by decide) (by simp) rfl fun w2 q => ?_
   subst ht
   exact q.d2
 · refine St.al q fun wa3 q => ?_
   refine OutS.byte (vs := [0]) q.sw (by decide) (by simp) rfl fun w2 q => ?_
   subst hf
   exact q.d2
 clear q
 intro w5 q
 refine ⟨_, (hn _ q.drop).2.1, ?_⟩
 refine St.al q fun wa4 q => ?_
 refine OutS.byte (vs := [((l.len : Nat) : Int)]) q.sw (fun v hv => by
   rw [List.mem_singleton] at hv
   subst hv; omega) (by simp) rfl fun w7 q => ?_
 have q := q.d2
 rw [byte_one (by omega), hl3] at q
 refine ⟨_, (hn _ q.drop).2.1, ?_⟩
 refine ⟨fun n w' => ∃ j : Nat, n = j ∧ j ≤ ls.length ∧ St w' (OutS og (lfB lf :: UInt8.ofNat ls.length :: rowB lf ls ats j) :: Y), fun n _ => ((ls.length : Int) - n).toNat, ⟨0, rfl, Nat.zero_le _, by rw [rowB_zero]; exact q⟩, ?_⟩
 clear q
 rintro _ w8 ⟨j, rfl, hj, q⟩
 refine ⟨fun hlt => ?_, fun hge => ?_⟩
 · have hlt : j < ls.length := by omega
   have hms : ((ls.length : Int) - ((j + 1 : Nat) : Int)).toNat < ((ls.length : Int) - (j : Int)).toNat := by omega
   have hx0 := ho ls[j] (List.getElem_mem _)
   obtain ⟨ad, ha, hb, c0, c1, c2⟩ := Has.ey (hx _ q.drop) hlt
   refine ⟨ad, ha, by omega, by omega, _, c0, _, c1, _, c2, ?_⟩
   have hsu := rowB_succ hlt hlen
   have hr1 := hrl j
   have hr2 := hrl (j + 1)
   have hlay := hx0.layl
   refine St.al q fun wa5 q => ?_
   refine St.fill3 q fun wa8 q => ?_
   refine ⟨_, q.cell0, _, q.cell 1, ?_⟩
   rw [← hx0.k0]
   refine Lay_mark q hx0.kk hx0.2.1 fun w9 q => ?_
   refine St.dr q fun wa9 q => ?_
   refine ⟨_, q.cell 2, fun w11 g1 hB11 hg11 hn11 ho11 w12 hB12 => ?_⟩
   have q := (((q.fz.iv hB11 hg11 hn11 ho11).iv0 hB12).sw).up3
   refine OutS.raw q (by simp only [List.length_cons]; omega) fun w13 q => ?_
   obtain ⟨k13, q⟩ := q.up2.kp
   refine ⟨k13, q.up3.cell 2, fun w14 g2 hB14 hg14 hn14 ho14 w15 hB15 => ?_⟩
   have q := (((q.iv hB14 hg14 hn14 ho14).iv0 hB15).sw).up2
   refine OutS.half (vs := [ls[j].a]) q (fun v hv => by
     rw [List.mem_singleton] at hv
     subst hv
     have := hx0.2.2
     omega) (by simp only [List.length_append, List.length_cons, List.length_nil]; omega) rfl fun w16 q => ?_
   obtain ⟨k16, q⟩ := q.up2.kp
   refine ⟨k16, q.up4.cell 2, fun w17 hB17 => ?_⟩
   have q := (q.iv0 hB17).drop.d2.d2.d2
   rw [w64_succ (by omega)]
   have e1 : [ls[j].a].flatMap (leBytes 2) = leBytes 2 ls[j].a := by simp
   rw [e1] at q
   refine ⟨_, (hn _ q.drop).1, fun hf => ?_, fun ht => ?_⟩
   · have hat1 := hlen hf
     obtain ⟨ad2, c, ha2, hb2, d0, d1⟩ := hk hf _ q.drop j (by omega)
     have hav := hat ats[j] (List.getElem_mem _)
     refine ⟨_, (hn _ q.drop).2.2, ad2, ha2, by omega, by omega, _, d0, c, rfl, _, d1, ?_⟩
     refine St.al q fun wa10 q => ?_
     refine OutS.half (vs := [ats[j]]) q.sw (fun v hv => by
       rw [List.mem_singleton] at hv
       subst hv; exact hav) (by simp only [List.length_append, List.length_cons, List.length_nil, leBytes_len]; omega) rfl fun w23 q => ⟨⟨j + 1, rfl, hlt, ?_⟩, hms⟩
     have q := q.d2
     have e2 : [ats[j]].flatMap (leBytes 2) = leBytes 2 ats[j] := by simp
     rw [e2] at q
     rw [hsu]
     subst hf
     have e3 : tailB false ats[j]? = leBytes 2 ats[j] := by rw [List.getElem?_eq_getElem (by omega)]; rfl
     rw [e3]
     simpa [List.append_assoc] using q
   · refine ⟨⟨j + 1, rfl, hlt, ?_⟩, hms⟩
     rw [hsu]
     subst ht
     have e3 : tailB true ats[j]? = [] := rfl
     rw [e3, List.append_nil]
     exact q
 · have hjj : j = ls.length := by omega
   subst hjj
   rw [rowB_all hlen] at q
   exact OutS.end_ q fun w18 q => hR _ q.drop
end
end Go.Proofs.YtggachhkcmfijaaGreatDoor
