/- BucketGrows. -/
import Derived.Test.YtgacpkgaogiocaaGreatDoorFa
set_option linter.unusedVariables false
namespace Go.Proofs.YtgacpkgaogiocaaGreatDoor
open Go Go.Vc Go.RowKit Go.Lib Go.Maps
theorem wr8_byte (x : Int) : ∃ b : UInt8, wr .u8 x = ((b.toNat : Nat) : Int) := by
 refine ⟨UInt8.ofNat (x % 256).toNat, ?_⟩
 rw [wr8]
 have h1 : 0 ≤ x % 256 := Int.emod_nonneg _ (by decide)
 have h2 : x % 256 < 256 := Int.emod_lt_of_pos _ (by decide)
 have h3 : (UInt8.ofNat (x % 256).toNat).toNat = (x % 256).toNat := by
   rw [UInt8.toNat_ofNat']
   exact Nat.mod_eq_of_lt (by omega)
 rw [h3]; omega
section
variable {w : World} {X : List As}
theorem two_bytes {g : Nat} {x y : Int} (h : St w (Cs g [.int .u8 (wr .u8 x), .int .u8 (wr .u8 y)] T.y_uint8 :: X)) {R : ByteArray → World → Prop} (hR : ∀ s : Bs, s.length = 2 → R (tx s) w) : RunT Pg (convert T.y_sl_uint8 T.y_string (.slice (some (blk g)) 2 2)) [.one .str] w R := by
 obtain ⟨a, ha⟩ := wr8_byte x
 obtain ⟨b, hb⟩ := wr8_byte y
 rw [ha, hb] at h
 have q := St.rowLit h (En := EB) (xs := [a, b]) (n := 2) rfl rfl (by decide)
 have hO := St.own q
 rw [EB_all] at hO
 exact runT_bytes_str und_bytes und_byte und_str (l := ⟨some (blk g), 2, 2⟩) hO (hR [a, b] rfl)
/-- a list of which all entries were taken, from places that rise -/
structure Gr (L all : List Ey) (m : Nat) : Prop where
 len : all.length = m
 ok : ∀ x ∈ all, okE x
 at_ : ∀ y ∈ L, y.a ≤ m
set_option maxHeartbeats 8000000 in
theorem BucketGrows_st (h : St w X) {n step : Int} {R : Bool → World → Prop} (hR : ∀ w', St w' X → R true w') : F.masonrylaw17_BucketGrows n step w R := by
 apply E.masonrylaw17_BucketGrows
 unfold V.masonrylaw17_BucketGrows
 try simp -zeta only [ldC, soC, brC, bkA, slC, cnd_all, blk_add2, Nat.reduceAdd]
 refine ⟨fun b w' => St w' X ∧ (b = false → 0 ≤ n ∧ n ≤ 60 ∧ 1 ≤ step ∧ step ≤ 50), ⟨fun _ => ⟨h, fun h => (by cases h)⟩, fun h1 => ⟨fun _ => ⟨h, fun h => (by cases h)⟩, fun h2 => ⟨fun _ => ⟨h, fun h => (by cases h)⟩, fun h3 => ⟨fun _ => ⟨h, fun h => (by cases h)⟩, fun h4 => alive17_st h fun w1 q => ⟨q, fun _ => ⟨by omega, by omega, by omega, by omega⟩⟩⟩⟩⟩⟩, ?_⟩
 rintro b w1 ⟨q, hb⟩
 refine ⟨fun _ => alive17_st q hR, fun hbf => ?_⟩
 obtain ⟨h1, h2, h3, h4⟩ := hb hbf
 obtain ⟨N, rfl⟩ : ∃ m : Nat, n = m := ⟨n.toNat, by omega⟩
 refine Fresh_st q (n := 400) (by decide) (by decide) fun k g w3 q => ?_
 simp -zeta only [Option.isNone_some, Bool.false_eq_true, false_implies, true_and, forall_const, true_implies]
 have hl0 : (fmt0 400).bs.length = 289 := by rw [fmt0_bs, bs0_len]
 have hroom : ∀ D : DkV, D.bs.length = 289 → (bktN 61 + 2) * needN (35 * 61) + 2 ≤ D.bs.length := fun D h => by rw [h]; decide
 refine ⟨fun root hv al i w' => ∃ (m : Nat) (D : DkV) (es : List Ent) (L all : List Ey) (ps : List Int), i = m ∧ m ≤ N ∧ L.length = m ∧ Gr L all m ∧ D.bs.length = 289 ∧ Have D es ∧ TabD es 2 root L ps 61 ∧ St w' (Row EE T.y_api_Entry hv L :: Row EE T.y_api_Entry al all :: DeskS k g (1001 + 2800 * m) D :: X), fun _ _ _ i _ => ((N : Int) - i).toNat, ⟨0, _, [], [], [], [], rfl, Nat.zero_le _, rfl, ⟨rfl, fun x h => (by cases h), fun x h => (by cases h)⟩, hl0, Have.fmt (by decide) (by decide), TabD.empty 2, St.row0 (St.row0 q EE T.y_api_Entry) EE T.y_api_Entry⟩, ?_⟩
 rintro root hv al _ w4 ⟨m, D, es, L, all, ps, rfl, hm, hL, hGr, hD, hH, hT, q⟩
 refine ⟨fun hlt => ?_, fun hge => ?_⟩
 · have hlt : m < N := by omega
   have hms : ((N : Int) - ((m + 1 : Nat) : Int)).toNat < ((N : Int) - (m : Int)).toNat := by omega
   refine St.al q fun wa1 q => ?_
   refine two_bytes q fun s hs => RefPrint_st q (kind := 1) (.inl rfl) (s := s) (by omega) fun w7 q => ?_
   have hxo : okE ⟨1, sumK 1 s, (m + 1 : Nat)⟩ := print_ok s ⟨by omega, by omega⟩
   have hps : (sumK 1 s).length = 20 := hxo.2.1
   generalize sumK 1 s = p at *
   have hxn : (⟨1, p, (m + 1 : Nat)⟩ : Ey) ∉ L := fun hm2 => by
     have := hGr.at_ _ hm2
     simp only at this
     omega
   have e1 : w64 ((1 : Int) + (m : Int)) = ((m + 1 : Nat) : Int) := by rw [w64_id (by omega) (by omega)]; omega
   rw [e1]
   refine St.al q fun wa2 q => ?_
   refine St.fill3 q fun wa5 q => ?_
   refine ⟨_, q.cell0, _, q.cell 1, _, q.cell 2, ?_⟩
   refine St.al q fun wa6 q => ?_
   have hadd : allF addS L [⟨1, p, (m + 1 : Nat)⟩] = (insE L ⟨1, p, (m + 1 : Nat)⟩, 0) := addS_ok hxo hxn (by omega)
   refine Add_st q.up5 hH hT (by decide) (by decide) (hroom D hD) (xs := [⟨1, p, (m + 1 : Nat)⟩]) (fun w' hw => hw.lit (En := EE) (xs := [⟨1, p, (m + 1 : Nat)⟩]) rfl rfl 1) (by simp; omega) (fun x hx => by
     rw [List.mem_singleton] at hx
     subst hx
     show p.length ≤ _
     omega) (by omega) (fun w' e he hne _ => absurd (by rw [← he, hadd]) hne) fun w13 D' es' root' ps' _ hH' hS' hT' q => ?_
   rw [hadd] at hT'
   -- desk, lit, z, bytes, have, all
   refine ⟨_, q.up2.cell0, _, q.up2.cell 1, _, q.up2.cell 2, ?_⟩
   refine St.al q fun wa7 q => ?_
   refine RefAdd_st q (fun w' hw => St.has hw.up5 (by decide)) (Row.nilOk q.up5) (Row.cap q.up5) ⟨hT.srt, hT.ok⟩ (fun w' hw => hw.lit (En := EE) (xs := [⟨1, p, (m + 1 : Nat)⟩]) rfl rfl 1) (by simp; omega) (fun w' e he hne _ => absurd (by rw [← he, hadd]) hne) fun w15 now _ hN => ?_
   rw [hadd] at hN
   have hil := insE_len L ⟨1, p, (m + 1 : Nat)⟩
   rcases hN with ⟨_, hacc, _⟩ | q
   · have := congrArg List.length hacc
     simp only at this
     omega
   have q := q.d2.d3.d4.d4
   refine ⟨fun b w' => b = false ∧ St w' _, ⟨fun h => absurd rfl h, fun _ => ⟨fun h => absurd rfl h, fun _ => Check_b q.sw hH' hT' (by decide) fun w16 q => ⟨rfl, q⟩⟩⟩, ?_⟩
   rintro b w17 ⟨rfl, q⟩
   refine ⟨fun h => (by cases h), fun _ => ⟨_, q.up2.cell0, _, q.up2.cell 1, _, q.up2.cell 2, ?_⟩⟩
   refine St.al q fun wa8 q => ?_
   have hal := hGr.len
   refine app1_ey q.up4.sw (y := ⟨1, p, (m + 1 : Nat)⟩) (by omega) fun l1 w19 q => ?_
   have q := q.d4.up2
   have ecd : 1001 + 2800 * m + 2800 = 1001 + 2800 * (m + 1) := by omega
   rw [ecd] at q
   rw [w64_succ (by omega)]
   refine ⟨⟨m + 1, D', es', _, all ++ [⟨1, p, (m + 1 : Nat)⟩], ps', rfl, hlt, by rw [hil, hL], ⟨by rw [List.length_append, List.length_singleton, hal], fun y hy => ?_, fun y hy => ?_⟩, hS'.2.trans hD, hH', hT', q⟩, hms⟩
   · rcases List.mem_append.1 hy with h | h
     · exact hGr.ok y h
     · rw [List.mem_singleton] at h
       subst h; exact hxo
   · rcases insE_mem.1 hy with h | h
     · subst h; exact Int.le_refl _
     · have := hGr.at_ y h
       omega
 · have hmm : m = N := by omega
   subst hmm
   have hal := hGr.len
   have hok := hGr.ok
   obtain ⟨st, rfl⟩ : ∃ s : Nat, step = s := ⟨step.toNat, by omega⟩
   refine ⟨fun root hv i w' => ∃ (i' : Nat) (D : DkV) (es : List Ent) (L : List Ey) (ps : List Int), i = i' ∧ i' ≤ m ∧ L.length ≤ m ∧ D.bs.length = 289 ∧ Have D es ∧ TabD es 2 root L ps 61 ∧ St w' (Row EE T.y_api_Entry hv L :: Row EE T.y_api_Entry al all :: DeskS k g (1001 + 2800 * (m + i')) D :: X), fun _ _ i _ => ((m : Int) - i).toNat, ⟨0, D, es, L, ps, rfl, Nat.zero_le _, by omega, hD, hH, hT, q⟩, ?_⟩
   clear hT hH hD hGr q
   rintro root hv _ w20 ⟨i, D, es, L, ps, rfl, hi, hL, hD, hH, hT, q⟩
   refine ⟨fun hlt => ⟨by omega, ?_⟩, fun hge => ?_⟩
   · have hlt : i < m := by omega
     have hms : ((m : Int) - ((i + 1 : Nat) : Int)).toNat < ((m : Int) - (i : Int)).toNat := by omega
     have hmul : i * st ≤ 60 * 50 := Nat.mul_le_mul (by omega) (by omega)
     have e1 : w64 ((i : Int) * (st : Int)) = ((i * st : Nat) : Int) := by rw [← Int.natCast_mul]; exact w64_id (by omega) (by omega)
     have e2 : ((i * st : Nat) : Int).tmod (m : Int) = ((i * st % m : Nat) : Int) := (Int.ofNat_tmod _ _).symm
     rw [e1, e2]
     have hj : i * st % m < all.length := by rw [hal]; exact Nat.mod_lt _ (by omega)
     generalize i * st % m = j at *
     obtain ⟨ad, ha, hb2, c0, c1, c2⟩ := Has.ey (St.has q.sw (by decide)) hj
     have hxo := hok all[j] (List.getElem_mem _)
     have hxh := hxo.hash
     generalize all[j] = x at *
     refine ⟨ad, ha, by omega, by omega, _, c0, _, c1, _, c2, ?_⟩
     refine St.al q fun wa9 q => ?_
     refine St.fill3 q fun wa12 q => ?_
     refine ⟨_, q.cell0, _, q.cell 1, _, q.cell 2, ?_⟩
     refine St.al q fun wa13 q => ?_
     have hxs : ∀ y ∈ [x], y.s.length ≤ 1000000000 := fun y hy => by
       rw [List.mem_singleton] at hy
       subst hy; exact hxh
     have ecd : 1001 + 2800 * (m + i) + 2800 = 1001 + 2800 * (m + (i + 1)) := by omega
     rw [w64_succ (by omega)]
     -- lit, z, have, all, desk
     by_cases hx : x ∈ L
     · have hdr : allF dropS L [x] = (L.filter fun y => decide (y ≠ x), 0) := dropS_ok hx
       have hdl := del_len hT.srt hx
       refine RefDrop_st q (fun w' hw => St.has hw.up2 (by decide)) (Row.nilOk q.up2) (Row.cap q.up2) ⟨hT.srt, hT.ok⟩ (fun w' hw => hw.lit (En := EE) (xs := [x]) rfl rfl 1) (by simp; omega) (fun w' e he hne _ => absurd (by rw [← he, hdr]) hne) fun w26 now _ hN => ?_
       rw [hdr] at hN
       rcases hN with ⟨_, hacc, _⟩ | q
       · have := congrArg List.length hacc
         simp only at this
         omega
       have q := q.d2.d3
       refine ⟨_, q.sw.cell0, _, q.sw.cell 1, _, q.sw.cell 2, ?_⟩
       refine St.al q fun wa14 q => ?_
       refine Drop_st17 q.up4 hH hT (by decide) (by decide) (hroom D hD) (xs := [x]) (fun w' hw => hw.lit (En := EE) (xs := [x]) rfl rfl 1) (by simp; omega) hxs (by omega) (fun w' e he hne _ => absurd (by rw [← he, hdr]) hne) fun w28 D' es' root' ps' _ hH' hS' hT' q => ?_
       rw [hdr] at hT'
       have q := q.d2.d3
       refine ⟨fun h => absurd rfl h, fun _ => ⟨fun b w' => b = false ∧ St w' _, ⟨fun h => absurd rfl h, fun _ => Check_b q hH' hT' (by decide) fun w29 q => ⟨rfl, q⟩⟩, ?_⟩⟩
       rintro b w30 ⟨rfl, q⟩
       refine ⟨fun h => (by cases h), fun _ => All_b q hH' hT' (by decide) fun l3 w31 q => ⟨fun h => absurd rfl h, fun _ => SameE_st q (fun w' hw => St.has hw (by decide)) (fun w' hw => St.has hw.up2 (by decide)) (by simp only; omega) fun w32 q => ?_⟩⟩
       refine ⟨fun h => absurd h (by simp), fun _ => ⟨⟨i + 1, D', es', _, ps', rfl, hlt, by simp only; omega, hS'.2.trans hD, hH', hT', ?_⟩, hms⟩⟩
       have q := q.drop.dn2
       rw [ecd] at q
       exact q
     · have hdr : allF dropS L [x] = (L, 8) := dropS_no hx
       refine RefDrop_st q (fun w' hw => St.has hw.up2 (by decide)) (Row.nilOk q.up2) (Row.cap q.up2) ⟨hT.srt, hT.ok⟩ (fun w' hw => hw.lit (En := EE) (xs := [x]) rfl rfl 1) (by simp; omega) (fun w26 e he hne q => ?_) fun w' now hz _ => absurd hz (by rw [hdr]; show ¬ (8 : Int) = 0; decide)
       have he : 8 = e := by rw [← he, hdr]
       subst he
       refine ⟨_, q.sw.cell0, _, q.sw.cell 1, _, q.sw.cell 2, ?_⟩
       refine St.al q fun wa15 q => ?_
       refine Drop_st17 q.up5 hH hT (by decide) (by decide) (hroom D hD) (xs := [x]) (fun w' hw => hw.lit (En := EE) (xs := [x]) rfl rfl 1) (by simp; omega) hxs (by omega) (fun w28 e he hne q => ?_) fun w' D' es' root' ps' hz _ _ _ _ => absurd hz (by rw [hdr]; show ¬ (8 : Int) = 0; decide)
       have he : 8 = e := by rw [← he, hdr]
       subst he
       refine ⟨fun _ => ⟨fun h => absurd rfl h, fun _ => ⟨⟨i + 1, D, es, L, ps, rfl, hlt, hL, hD, hH, hT, ?_⟩, hms⟩⟩, fun h => absurd h (by decide)⟩
       have q := q.d2.d2.d2.dn2
       rw [ecd] at q
       exact q
   · have hlen := (St.has q (by decide)).1
     have hiff : (root = 0) ↔ (L.length = 0) := by
       rcases hT.rt with ⟨e1, e2⟩ | ⟨e1, e2, _⟩
       · rw [e2]; exact ⟨fun _ => rfl, fun _ => e1⟩
       · exact ⟨fun h => absurd h e1, fun h => absurd (List.eq_nil_of_length_eq_zero h) e2⟩
     refine ⟨fun _ => ⟨fun _ => hR _ q.drop.drop.drop, fun hno => ?_⟩, fun hbad => ?_⟩
     · have hL0 : L = [] := List.eq_nil_of_length_eq_zero (by omega)
       have hr0 : root = 0 := hiff.2 (by rw [hL0]; rfl)
       have hps : ps = [] := List.eq_nil_of_length_eq_zero (by rw [hT.plen, hL0]; rfl)
       have hes : es = [] := by
         have hc := hT.cov
         rw [hr0, hps] at hc
         unfold Cov at hc
         rw [nz_cons0, nz_nil] at hc
         have := hc.length_eq
         rw [List.length_map] at this
         exact List.eq_nil_of_length_eq_zero this
       subst hes
       have hall := hH.all
       refine Room_st q.up2 fun r w33 q => ⟨fun _ => Room_st q.sw fun r2 w34 q => Free_st q (by omega) fun w35 q => ?_, fun h => (by cases h)⟩
       rw [hall, hD]
       have e5 : (nextT (allP [])).length = 0 := by
         have := nextT_nd hH.nd
         rw [this]; rfl
       simp only [List.length_cons, e5]
       exact hR _ q.drop.drop.drop.drop.drop
     · exfalso
       have e1 : (root == 0) = (((hv.len : Nat) : Int) == 0) := by
         rw [Bool.eq_iff_iff, beq_iff_eq, beq_iff_eq]
         omega
       first | (rw [e1] at hbad; simp at hbad) | (apply hbad; rw [e1])
theorem BucketGrows_spec {n step : Int} {R : Bool → World → Prop} (hR : ∀ w', Below w.heap.size w w' → R true w') : F.masonrylaw17_BucketGrows n step w R :=
 BucketGrows_st (St.start w) fun w' h => hR w' (St.old h)
end
end Go.Proofs.YtgacpkgaogiocaaGreatDoor
