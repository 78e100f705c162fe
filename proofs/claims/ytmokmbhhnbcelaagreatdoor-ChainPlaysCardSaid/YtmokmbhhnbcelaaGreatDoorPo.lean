/- ChainPlays: the walk. -/
import Derived.Test.YtmokmbhhnbcelaaGreatDoorBo
import Derived.Test.YtmokmbhhnbcelaaGreatDoorBq
import Derived.Test.YtmokmbhhnbcelaaGreatDoorPu
import Derived.Test.YtmokmbhhnbcelaaGreatDoorCy
set_option linter.unusedVariables false
namespace Go.Proofs.YtmokmbhhnbcelaaGreatDoor
open Go Go.Vc Go.RowKit Go.Lib

def ETh : Enc Th := ⟨fun x => [.int .i64 x.at_, .int .i64 x.gen, .int .i64 x.tag, .int .i64 x.refs, .string (tx x.data)], 5, fun _ => rfl, fun _ u hu => by simp only [List.mem_cons, List.not_mem_nil, or_false] at hu; rcases hu with rfl | rfl | rfl | rfl | rfl <;> rfl⟩
theorem elt_th : Elt Pg T.y_sl_masonrylaw12_there T.y_masonrylaw12_there 5 48 := by
  refine ⟨by kernel_rfl, ?_, by decide⟩
  have h : (Pg.info? T.y_masonrylaw12_there).map (fun i => (i.zero, i.size, i.bytes)) = some (some (.agg #[.int .i64 0, .int .i64 0, .int .i64 0, .int .i64 0, .string sNil]), 5, 48) := by kernel_rfl
  obtain ⟨i, hi, h2⟩ := Option.map_eq_some_iff.1 h
  simp only [Prod.mk.injEq] at h2
  exact ⟨i, _, hi, h2.1, h2.2.1, h2.2.2, rfl⟩
theorem Has.th {w : World} {l : Sl} {xs : List Th} (h : Has ETh w l xs) {m : Nat} (hm : m < xs.length) : ∃ ad, l.a = some ad ∧ m < l.len ∧ w.cell? (ad.add (m * 5)) = some (.int .i64 xs[m].at_) ∧ w.cell? ((ad.add (m * 5)).add 1) = some (.int .i64 xs[m].gen) ∧ w.cell? ((ad.add (m * 5)).add 2) = some (.int .i64 xs[m].tag) ∧ w.cell? ((ad.add (m * 5)).add 3) = some (.int .i64 xs[m].refs) ∧ w.cell? ((ad.add (m * 5)).add 4) = some (.string (tx xs[m].data)) := by
  obtain ⟨ad, ha, hl, hc⟩ := h.at hm
  have h0 := hc 0 _ rfl
  rw [Vc.addr_add0] at h0
  exact ⟨ad, ha, hl, h0, hc 1 _ rfl, hc 2 _ rfl, hc 3 _ rfl, hc 4 _ rfl⟩
def ths (es : List Ent) : List Th := es.map (·.x)
theorem ths_len (es : List Ent) : (ths es).length = es.length := by simp [ths]
theorem ths_get {es : List Ent} {m : Nat} (hm : m < es.length) : (ths es)[m]'(by rw [ths_len]; exact hm) = es[m].x := by simp [ths]
theorem putU_next {A : List Int} {x : Int} : putU (nextT A) x = nextT (A ++ [x]) :=
  up_ext (putU_up (nextT_up A).1) (nextT_up _).1 fun y => by
    rw [putU_mem, (nextT_up A).2, (nextT_up (A ++ [x])).2, List.mem_append, List.mem_singleton]
    exact or_comm
theorem es_len {D : DkV} : ∀ {es : List Ent}, (∀ e ∈ es, EntOk D e) → es.length ≤ (allP es).length
  | [], _ => Nat.zero_le _
  | e :: r, h => by
    have h1 := es_len (es := r) fun x hx => h x (List.mem_cons_of_mem _ hx)
    have h2 := (h e (List.mem_cons_self ..)).chn.pos
    rw [allP_cons, List.length_append, e.ps_len, List.length_cons]
    omega

section
variable {α : Type} {En : Enc α}
theorem enc_set : ∀ (xs : List α) (k : Nat) (hk : k < xs.length) (i : Nat) (hi : i < En.n) (y : α) (v : Value), En.cells y = (En.cells xs[k]).set i v → (En.all xs).set (k * En.n + i) v = En.all (xs.set k y)
  | [], k, hk, _, _, _, _, _ => by simp at hk
  | x :: r, 0, hk, i, hi, y, v, hy => by
    have hy : En.cells y = (En.cells x).set i v := hy
    show (En.cells x ++ En.all r).set (0 * En.n + i) v = En.cells y ++ En.all r
    rw [Nat.zero_mul, Nat.zero_add, List.set_append_left _ _ (by rw [En.len]; exact hi), hy]
  | x :: r, k + 1, hk, i, hi, y, v, hy => by
    have ih := enc_set r k (by simpa using hk) i hi y v hy
    show (En.cells x ++ En.all r).set ((k + 1) * En.n + i) v = En.cells x ++ En.all (r.set k y)
    have e : (k + 1) * En.n + i = (En.cells x).length + (k * En.n + i) := by rw [En.len, Nat.add_mul]; omega
    rw [e, List.set_append_right _ _ (Nat.le_add_right _ _), Nat.add_sub_cancel_left, ih]
theorem Row.put {w : World} {X : List As} {t : TypeId} {l : Sl} {xs : List α} (h : St w (Row En t l xs :: X)) {k : Nat} (hk : k < xs.length) {i : Nat} (hi : i < En.n) {a : Addr} (ha : l.a = some a) {y : α} {v : Value} (hy : En.cells y = (En.cells xs[k]).set i v) :
    Wr w ((a.add (k * En.n)).add i) ∧ St (w.setCell ((a.add (k * En.n)).add i) v) (Row En t l (xs.set k y) :: X) := by
  obtain ⟨S, ⟨hO, e⟩, hlt, hX⟩ := h.out
  subst e
  have hl := En.all_len xs
  rw [Vc.addr_add]
  have hlt : k * En.n + i < (En.all xs).length := by
    rw [hl]
    have : (k + 1) * En.n ≤ xs.length * En.n := Nat.mul_le_mul_right _ hk
    rw [Nat.add_mul] at this
    omega
  obtain ⟨q1, q2, q3⟩ := Own.setN (by omega) hO (k := k * En.n + i) hlt v ha
  rw [enc_set xs k hk i hi y v hy] at q2
  exact ⟨q1, hX ⟨q2, rfl⟩ q3 (fun j hj => .inl hj)⟩
theorem Row.max {w : World} {X : List As} {t : TypeId} {l : Sl} {xs : List α} (h : St w (Row En t l xs :: X)) : l.len ≤ maxLen := by
  have hO := h.own
  rcases hO.2 with ⟨h2, h0⟩ | ⟨g, cap, cur, h2, hbg, hgg, hnc, hcm, hcs, htake⟩
  · rw [h0]; exact Nat.zero_le _
  · simp only [Value.slice.injEq] at h2; omega
end
theorem up_len : ∀ {l : List Int} {lo hi : Int}, Up l → (∀ x ∈ l, lo ≤ x ∧ x < hi) → lo ≤ hi → (l.length : Int) ≤ hi - lo
  | [], lo, hi, _, _, h => by simp; omega
  | a :: r, lo, hi, hu, hr, h => by
    obtain ⟨h1, h2⟩ := List.pairwise_cons.1 hu
    have ha := hr a (List.mem_cons_self ..)
    have := up_len (l := r) (lo := a + 1) (hi := hi) h2 (fun x hx => by
      have h3 := h1 x hx
      have h4 := hr x (List.mem_cons_of_mem _ hx)
      omega) (by omega)
    simp only [List.length_cons]
    omega
theorem keys_len {D : DkV} {c : Nat} (h : DOk c D) : (keysW (written D)).length ≤ D.bs.length := by
  have hu : Up (keysW (written D)) := by rw [← written_keys D]; exact (nextT_up _).1
  have := up_len (lo := 0) (hi := (D.bs.length : Int)) hu (fun x hx => by
    obtain ⟨p, hp, rfl⟩ := List.mem_map.1 hx
    have := written_mem h p hp
    exact ⟨this.1, this.2.1⟩) (by omega)
  omega
abbrev opV (o : OpC) : List Value := [.int .i64 o.kind, .int .i64 o.k, .int .i64 o.gen, .int .i64 o.tag, .int .i64 o.by_, .string (tx o.s), .int .i64 o.more]
abbrev thV (x : Th) : List Value := [.int .i64 x.at_, .int .i64 x.gen, .int .i64 x.tag, .int .i64 x.refs, .string (tx x.data)]

section
variable {w : World} {X : List As}
set_option maxHeartbeats 8000000 in
theorem ChainPlays_st (h : St w X) {n size : Int} {sl : Sl} {os : List OpC} (hx : ∀ w', St w' X → Has EOC w' sl os) {R : Bool → World → Prop} (hR : ∀ w', St w' X → R true w') : F.masonrylaw12_ChainPlays n sl size w R := by
  apply E.masonrylaw12_ChainPlays
  unfold V.masonrylaw12_ChainPlays
  try simp (config := { zeta := false }) only [cnd_all, Nat.reduceAdd]
  have hs := (hx w h).1
  refine ⟨fun b w' => St w' X ∧ (b = false → 140 ≤ n ∧ n ≤ 400 ∧ os.length ≤ 40 ∧ ∀ o ∈ os, o.s.length ≤ 8000), ⟨fun _ => ⟨h, fun h => (by cases h)⟩, fun h1 => ⟨fun _ => ⟨h, fun h => (by cases h)⟩, fun h2 => Light12_st h hx fun b w1 hw hb => ⟨fun _ => ⟨hw, fun h => (by cases h)⟩, fun hbt => alive12_spec hw fun w2 hw2 => ⟨hw2, fun _ => ?_⟩⟩⟩⟩, ?_⟩
  · obtain ⟨a1, a2⟩ := hb (by simpa using hbt)
    exact ⟨by omega, by omega, a1, a2⟩
  rintro b w1 ⟨h1, hb⟩
  refine ⟨fun _ => alive12_spec h1 hR, fun hbf => ?_⟩
  obtain ⟨hn1, hn2, hol, hos⟩ := hb hbf
  obtain ⟨n, rfl⟩ := Int.eq_ofNat_of_zero_le (by omega : 0 ≤ n)
  have hn1 : 140 ≤ n := by omega
  have hn2 : n ≤ 400 := by omega
  refine Fresh_st h1 (n := n) (by omega) (by omega) fun k g w2 h2 => ⟨fun h => (by cases h), fun _ => ?_⟩
  have hH0 := Have.fmt (n := n) (by omega) (by omega)
  have hf0 : freeN (fmt0 n).bs = n - 113 := by rw [fmt0_bs, freeN_bs0 (by omega)]; omega
  have hb0 : (fmt0 n).bs.length = n - 111 := by rw [fmt0_bs, bs0_len]
  refine ⟨fun hv free i w' => ∃ m D es c, i = ((m : Nat) : Int) ∧ m ≤ os.length ∧ c ≤ 1001 + 41 * m ∧ D.bs.length = n - 111 ∧ Have D es ∧ free = (freeN D.bs : Int) ∧ St w' (Row ETh T.y_masonrylaw12_there hv (ths es) :: DeskS k g c D :: X), fun _ _ i _ => ((os.length : Int) - i).toNat, ⟨0, fmt0 n, [], 1001, rfl, Nat.zero_le _, by omega, hb0, hH0, by rw [hf0, w64_id (by omega) (by omega)]; omega, h2.row0 ETh T.y_masonrylaw12_there⟩, ?_⟩
  rintro hv free i w3 ⟨m, D, es, c, rfl, hm, hc, hbl, hH, rfl, h3⟩
  refine ⟨fun hlt => ?_, fun hge => ?_⟩
  · have hlt : m < os.length := by omega
    have hme : ∀ {m' : Nat}, m' = m + 1 → ((os.length : Int) - (m' : Int)).toNat < ((os.length : Int) - (m : Int)).toNat := fun {m'} e => by omega
    have hss := hos _ (List.getElem_mem hlt)
    have hel := es_len hH.ok
    have hfree := hH.free
    obtain ⟨ad, ha, hal, c0, c1, c2, c3, c4, c5, c6⟩ := Has.op (hx _ h3.drop.drop) hlt
    refine ⟨ad, ha, by omega, by omega, _, c0, _, c1, _, c2, _, c3, _, c4, _, c5, _, c6, ?_⟩
    generalize os[m] = o at *
    intro wa1
    replace h3 : St wa1 (Cs _ _ _ :: _) := h3.new _ _
    clear_value wa1
    refine ⟨h3.wr0 (by simp), ?_⟩
    intro wa2
    replace h3 : St wa2 _ := h3.set0 _
    clear_value wa2
    refine ⟨h3.wr (by simp), ?_⟩
    intro wa3
    replace h3 : St wa3 _ := h3.set 1 _
    clear_value wa3
    refine ⟨h3.wr (by simp), ?_⟩
    intro wa4
    replace h3 : St wa4 _ := h3.set 2 _
    clear_value wa4
    refine ⟨h3.wr (by simp), ?_⟩
    intro wa5
    replace h3 : St wa5 _ := h3.set 3 _
    clear_value wa5
    refine ⟨h3.wr (by simp), ?_⟩
    intro wa6
    replace h3 : St wa6 _ := h3.set 4 _
    clear_value wa6
    refine ⟨h3.wr (by simp), ?_⟩
    intro wa7
    replace h3 : St wa7 _ := h3.set 5 _
    clear_value wa7
    refine ⟨h3.wr (by simp), ?_⟩
    intro wa8
    replace h3 : St wa8 _ := h3.set 6 _
    clear_value wa8
    simp only [List.set_cons_zero, List.set_cons_succ] at h3
    generalize w3.heap.size = z at *
    refine Dirty_st h3.up2 (by omega) fun dl w4 h4 => ?_
    -- dirty, desk, op, have
    refine ⟨fun hv' free' w' => ∃ D' es' c', c' ≤ 1001 + 41 * (m + 1) ∧ D'.bs.length = n - 111 ∧ Have D' es' ∧ free' = (freeN D'.bs : Int) ∧ St w' (Row ETh T.y_masonrylaw12_there hv' (ths es') :: DeskS k g c' D' :: X), ⟨_, h4.up2.cell0, fun hk1 => ?_, fun hk1 => ?_⟩, ?_⟩
    · -- put
      intro wa9
      replace h4 : St wa9 _ := h4.drew
      clear_value wa9
      refine ⟨_, h4.up2.cell 5, _, h4.up2.cell 6, ?_⟩
      have hz0 : 0 ≤ imin (imax o.more 0) 3000 ∧ imin (imax o.more 0) 3000 ≤ 3000 := by unfold imin imax; split <;> split <;> omega
      obtain ⟨z1, hz1⟩ := Int.eq_ofNat_of_zero_le hz0.1
      rw [hz1] at hz0 ⊢
      refine Zeros_st h4 (n := z1) (by omega) fun w5 h5 => ⟨h5.up2.cell 6, h5.up2.cell 5, by rw [tx_size, tx_size]; simp; omega, ?_⟩
      rw [tx_app]
      have hb1 : (o.s ++ List.replicate z1 0).length ≤ 11000 := by simp; omega
      generalize o.s ++ List.replicate z1 0 = B0 at *
      refine ⟨fun b w' => (∃ B : Bs, b = tx B ∧ B.length ≤ 18000) ∧ St w' (Row EI T.y_int dl (keysW (written D)) :: DeskS k g c D :: Cs z (opV o) T.y_masonrylaw12_Op :: Row ETh T.y_masonrylaw12_there hv (ths es) :: X), ⟨_, h5.up2.cell 6, fun _ => Zeros_st h5 (n := 7000) (by decide) fun w6 h6 => ⟨by rw [tx_size, tx_size, List.length_replicate]; omega, ⟨_, tx_app _ _, by rw [List.length_append, List.length_replicate]; omega⟩, h6⟩, fun _ => ⟨⟨_, rfl, by omega⟩, h5⟩⟩, ?_⟩
      rintro b w6 ⟨⟨B, rfl, hB⟩, h6⟩
      refine ⟨_, h6.up2.cell 2, _, h6.up2.cell 3, ?_⟩
      obtain ⟨wantV, hwV⟩ : ∃ v : Int, v = if ¬ ((1 ≤ o.gen ∧ o.gen ≤ 3) ∧ (0 ≤ o.tag ∧ o.tag ≤ 200)) then 1 else if 9440 < B.length then 2 else if freeN D.bs < needN B.length then 20 else 0 := ⟨_, rfl⟩
      refine F.chain_Put_mono (R := fun n12 n13 w' => n13 = wantV ∧ ((n13 ≠ 0 ∧ n12 = 0 ∧ St w' (DeskS k g (c + 40) D :: Row EI T.y_int dl (keysW (written D)) :: Cs z (opV o) T.y_masonrylaw12_Op :: Row ETh T.y_masonrylaw12_there hv (ths es) :: X)) ∨ (n13 = 0 ∧ ∃ D' e', D'.bs.length = n - 111 ∧ Have D' (es ++ [e']) ∧ e'.x = ⟨n12, o.gen, o.tag, 1, B⟩ ∧ freeN D'.bs + needN B.length = freeN D.bs ∧ St w' (DeskS k g (c + 40) D' :: Row EI T.y_int dl (keysW (written D)) :: Cs z (opV o) T.y_masonrylaw12_Op :: Row ETh T.y_masonrylaw12_there hv (ths es) :: X)))) ?_ ?_
      · by_cases hgt : (1 ≤ o.gen ∧ o.gen ≤ 3) ∧ (0 ≤ o.tag ∧ o.tag ≤ 200)
        · rw [if_neg (fun hh => hh hgt)] at hwV
          by_cases hlong : 9440 < B.length
          · rw [if_pos hlong] at hwV
            exact Put_long hgt.1 hgt.2 hlong ⟨hwV.symm, .inl ⟨by decide, rfl, DeskS.mono h6.sw (by omega)⟩⟩
          · rw [if_neg hlong] at hwV
            refine Put_E h6.sw hH hgt.1 hgt.2 (by omega) (by omega) (fun w7 hlf h7 => ?_) fun w7 D' e' hle e1 e2 e3 e4 hfr hH' h7 => ?_
            · rw [if_pos hlf] at hwV
              exact ⟨hwV.symm, .inl ⟨by decide, rfl, h7⟩⟩
            · rw [if_neg (by omega)] at hwV
              have hl2 := hH'.len
              refine ⟨hwV.symm, .inr ⟨rfl, D', e', ?_, hH', ?_, hfr, h7⟩⟩
              · have h1 := hH'.free
                have h2 : (allP (es ++ [e'])).length = (allP es).length + needN B.length := by
                  rw [allP_app, allP_cons, List.length_append, List.length_append, Ent.ps_len]
                  have : (allP ([] : List Ent)).length = 0 := rfl
                  unfold Ent.n
                  rw [e4]; omega
                omega
              · show (⟨e'.x.at_, e'.x.gen, e'.x.tag, e'.x.refs, e'.x.data⟩ : Th) = _
                rw [e1, e2, e3, e4]
        · rw [if_pos hgt] at hwV
          exact Put_arg hgt ⟨hwV.symm, .inl ⟨by decide, rfl, DeskS.mono h6.sw (by omega)⟩⟩
      rintro n12 n13 w7 ⟨hw13, hor⟩
      have Z : ∃ D' c', St w7 (DeskS k g c' D' :: Row EI T.y_int dl (keysW (written D)) :: Cs z (opV o) T.y_masonrylaw12_Op :: Row ETh T.y_masonrylaw12_there hv (ths es) :: X) := by
        rcases hor with ⟨_, _, hh⟩ | ⟨_, D', e', _, _, _, _, hh⟩
        · exact ⟨_, _, hh⟩
        · exact ⟨_, _, hh⟩
      obtain ⟨DZ, cZ, hZ⟩ := Z
      have hZ := hZ.up2
      refine ⟨fun want w' => w' = w7 ∧ want = n13, ⟨fun v w' => w' = w7 ∧ v = decide (¬ ((1 ≤ o.gen ∧ o.gen ≤ 3) ∧ (0 ≤ o.tag ∧ o.tag ≤ 200))), ⟨_, hZ.cell 2, fun hh => ⟨rfl, by rw [eq_comm, decide_eq_true_iff]; omega⟩, fun _ => ⟨_, hZ.cell 2, fun hh => ⟨rfl, by rw [eq_comm, decide_eq_true_iff]; omega⟩, fun _ => ⟨_, hZ.cell 3, fun hh => ⟨rfl, by rw [eq_comm, decide_eq_true_iff]; omega⟩, fun _ => ⟨_, hZ.cell 3, rfl, by rw [Bool.eq_iff_iff, decide_eq_true_iff, decide_eq_true_iff]; omega⟩⟩⟩⟩, ?_⟩, ?_⟩
      · rintro v w8 ⟨rfl, rfl⟩
        refine ⟨fun hv => ?_, fun hv => ?_⟩
        · rw [if_pos (of_decide_eq_true hv)] at hwV
          exact ⟨rfl, by rw [hw13, hwV]⟩
        · rw [if_neg (of_decide_eq_false hv)] at hwV
          rw [tx_size]
          refine ⟨fun hh => ?_, fun hh => need12_st (by omega) ?_⟩
          · rw [if_pos (by omega)] at hwV
            exact ⟨rfl, by rw [hw13, hwV]⟩
          · rw [if_neg (by omega)] at hwV
            have e : needI ((B.length : Nat) : Int) = (needN B.length : Int) := by unfold needI; rw [if_neg (by omega), Int.toNat_natCast]
            rw [e]
            refine ⟨fun hh => ?_, fun hh => ?_⟩
            · rw [if_pos (by omega)] at hwV
              exact ⟨rfl, by rw [hw13, hwV]⟩
            · rw [if_neg (by omega)] at hwV
              exact ⟨rfl, by rw [hw13, hwV]⟩
      rintro n14 w8 ⟨rfl, rfl⟩
      refine ⟨fun v w' => v = false ∧ ((n14 ≠ 0 ∧ St w' (DeskS k g (c + 40) D :: Row EI T.y_int dl (keysW (written D)) :: Cs z (opV o) T.y_masonrylaw12_Op :: Row ETh T.y_masonrylaw12_there hv (ths es) :: X)) ∨ (n14 = 0 ∧ w' = w8)), ⟨fun h => absurd rfl h, fun _ => ⟨fun hne => ?_, fun h0 => ⟨rfl, .inr ⟨h0, rfl⟩⟩⟩⟩, ?_⟩
      · rcases hor with ⟨_, r2, hh⟩ | ⟨r1, _⟩
        · subst r2
          refine ⟨fun h => absurd rfl h, fun _ => Dirty_st hh (by omega) fun l2 w9 h9 => ?_⟩
          have hkl := keys_len (DeskS.ok h9.sw)
          have hkl : (keysW (written D)).length ≤ 1000000000000000 := by omega
          refine SameI_st h9 (xs := keysW (written D)) (ys := keysW (written D)) (fun w' hw => hw.has (by decide)) (fun w' hw => hw.up2.has (by decide)) hkl fun w10 h10 => ?_
          rw [decide_eq_true rfl]
          exact ⟨rfl, .inl ⟨hne, h10.drop⟩⟩
        · exact absurd r1 hne
      rintro v w9 ⟨rfl, hor2⟩
      refine ⟨fun h => (by cases h), fun _ => ⟨fun h0 => ?_, fun hne => ?_⟩⟩
      · rcases hor2 with ⟨hne, _⟩ | ⟨_, rfl⟩
        · exact absurd h0 hne
        rcases hor with ⟨hne, _, _⟩ | ⟨_, D', e', hbl', hH', hex, hfr, h7⟩
        · exact absurd h0 hne
        -- desk, dirty, op, have
        intro wa10
        replace h7 : St wa10 _ := h7.drew
        clear_value wa10
        refine ⟨_, h7.up2.cell 2, _, h7.up2.cell 3, fun w10 hB10 => ?_⟩
        have h10 := h7.fz.iv0 hB10
        refine St.copy elt_th h10 (h10.up4.has (by decide)) (Row.nilOk h10.up4) (by rw [ths_len]; omega) (by rw [ths_len]; omega) fun l3 w11 h11 => ?_
        obtain ⟨k11, h11⟩ := h11.sw.kp
        refine ⟨k11, h11.up4.cell 3, h11.up4.cell 2, fun w12 g2 hB12 hg2 hn2 ho2 w13 hB13 => ?_⟩
        have h13 := (h11.iv hB12 hg2 hn2 ho2).iv0 hB13
        refine St.app elt_th h13.up2 (sl := ⟨some (blk g2), 1, 1⟩) (ys := ([⟨n12, o.gen, o.tag, 1, B⟩] : List Th)) (h13.sw.lit (xs := ([⟨n12, o.gen, o.tag, 1, B⟩] : List Th)) rfl rfl 1) rfl (by rw [ths_len]; simp only [List.length_singleton]; omega) (by rw [ths_len]; simp only [List.length_singleton]; omega) fun l4 w14 h14 _ => ?_
        obtain ⟨k14, h14⟩ := h14.sw.kp
        refine ⟨k14, h14.up5.cell 3, h14.up5.cell 2, fun w15 hB15 => ?_⟩
        have h15 := h14.iv0 hB15
        rw [tx_size]
        refine need12_st (by omega) ?_
        have e : needI ((B.length : Nat) : Int) = (needN B.length : Int) := by unfold needI; rw [if_neg (by omega), Int.toNat_natCast]
        rw [e, w64_id (by omega) (by omega)]
        have e2 : ths es ++ ([⟨n12, o.gen, o.tag, 1, B⟩] : List Th) = ths (es ++ [e']) := by unfold ths; rw [List.map_append, List.map_cons, List.map_nil, hex]
        rw [e2] at h15
        -- fz, l4, lit, desk, dirty, op, have
        exact ⟨D', es ++ [e'], c + 40, by omega, hbl', hH', by omega, (h15.drop.d2.d3).d3.d3⟩
      · rcases hor2 with ⟨_, hh⟩ | ⟨h0, _⟩
        · exact ⟨D, es, c + 40, by omega, hbl, hH, rfl, hh.d2.d2.sw⟩
        · exact absurd h0 hne
    · -- used, dropped, or nothing
      refine ⟨fun v w' => w' = w4 ∧ v = decide (o.kind = 2 ∨ o.kind = 3), ⟨fun hh => ⟨rfl, by simp [hh]⟩, fun hh => ⟨rfl, by rw [Bool.eq_iff_iff, beq_iff_eq, decide_eq_true_iff]; omega⟩⟩, ?_⟩
      rintro v w5 ⟨rfl, rfl⟩
      refine ⟨fun _ => ?_, fun _ => ⟨D, es, c, by omega, hbl, hH, rfl, h4.drop.d2.sw⟩⟩
      have hhl := (h4.up3.has (by decide)).1
      rw [ths_len] at hhl
      refine ⟨fun h0 => ?_, fun h0 => ?_⟩
      · rw [w64_succ (by omega)]
        exact ⟨⟨m + 1, D, es, c, rfl, by omega, by omega, hbl, hH, rfl, h4.drop.d2.sw⟩, hme rfl⟩
      have hpos : 0 < es.length := by omega
      refine ⟨_, h4.up2.cell 1, h0, h0, ?_⟩
      have hjj : ∃ jj : Nat, jj < es.length ∧ (w64 (o.k.tmod ((hv.len : Nat) : Int) + ((hv.len : Nat) : Int))).tmod ((hv.len : Nat) : Int) = (jj : Int) := by
        have hL : (0 : Int) < ((hv.len : Nat) : Int) := by omega
        have b1 := Int.lt_tmod_of_pos o.k hL
        have b2 := Int.tmod_lt_of_pos o.k hL
        rw [w64_id (by omega) (by omega)]
        have b3 := Int.tmod_nonneg ((hv.len : Nat) : Int) (a := o.k.tmod ((hv.len : Nat) : Int) + ((hv.len : Nat) : Int)) (by omega)
        have b4 := Int.tmod_lt_of_pos (o.k.tmod ((hv.len : Nat) : Int) + ((hv.len : Nat) : Int)) hL
        exact ⟨_, by omega, (Int.toNat_of_nonneg b3).symm⟩
      obtain ⟨jj, hjl, hje⟩ := hjj
      rw [hje]
      have TH : ∀ {w'} {Y : List As}, St w' (Row ETh T.y_masonrylaw12_there hv (ths es) :: Y) → ∃ ad, hv.a = some ad ∧ w'.cell? (ad.add (jj * 5)) = some (.int .i64 es[jj].x.at_) ∧ w'.cell? ((ad.add (jj * 5)).add 1) = some (.int .i64 es[jj].x.gen) ∧ w'.cell? ((ad.add (jj * 5)).add 2) = some (.int .i64 es[jj].x.tag) ∧ w'.cell? ((ad.add (jj * 5)).add 3) = some (.int .i64 es[jj].x.refs) ∧ w'.cell? ((ad.add (jj * 5)).add 4) = some (.string (tx es[jj].x.data)) := fun hw => by
        obtain ⟨ad, t1, t2, t3, t4, t5, t6, t7⟩ := Has.th (hw.has (by decide)) (m := jj) (by rw [ths_len]; exact hjl)
        rw [ths_get hjl] at t3 t4 t5 t6 t7
        exact ⟨ad, t1, t3, t4, t5, t6, t7⟩
      have hem : es[jj] ∈ es := List.getElem_mem hjl
      have hok := hH.ok _ hem
      have hsplit : es = es.take jj ++ es[jj] :: es.drop (jj + 1) := by rw [← List.drop_eq_getElem_cons hjl, List.take_append_drop]
      have hset : ∀ e2 : Ent, es.take jj ++ e2 :: es.drop (jj + 1) = es.set jj e2 := fun e2 => by rw [List.set_eq_take_append_cons_drop, if_pos hjl]
      have hdl := hok.len
      have hrf := hok.refs
      have hgj : es[jj]? = some es[jj] := List.getElem?_eq_getElem hjl
      generalize es[jj] = e at *
      obtain ⟨a1, ha1, d0, d1, d2, d3, d4⟩ := TH h4.up3
      refine ⟨a1, ha1, by omega, by omega, _, d0, _, d1, _, d2, _, d3, _, d4, ?_⟩
      intro wa11
      replace h4 : St wa11 (Cs _ _ _ :: _) := h4.new _ _
      clear_value wa11
      refine ⟨h4.wr0 (by simp), ?_⟩
      intro wa12
      replace h4 : St wa12 _ := h4.set0 _
      clear_value wa12
      refine ⟨h4.wr (by simp), ?_⟩
      intro wa13
      replace h4 : St wa13 _ := h4.set 1 _
      clear_value wa13
      refine ⟨h4.wr (by simp), ?_⟩
      intro wa14
      replace h4 : St wa14 _ := h4.set 2 _
      clear_value wa14
      refine ⟨h4.wr (by simp), ?_⟩
      intro wa15
      replace h4 : St wa15 _ := h4.set 3 _
      clear_value wa15
      refine ⟨h4.wr (by simp), ?_⟩
      intro wa16
      replace h4 : St wa16 _ := h4.set 4 _
      clear_value wa16
      simp only [List.set_cons_zero, List.set_cons_succ] at h4
      generalize w5.heap.size = y at *
      -- there, dirty, desk, op, have
      refine ⟨_, h4.up3.cell0, fun hk3 => ?_, fun hk3 => ?_⟩
      · refine ⟨_, h4.cell0, ?_⟩
        have hH2 := hH
        rw [hsplit] at hH2
        have hq := h4.up2
        refine Drop_E hq hH2 fun w6 hH3 h6 => ⟨fun h => absurd rfl h, fun _ => ⟨_, h6.sw.cell 4, ?_⟩⟩
        rw [tx_size]
        refine need12_st (by omega) ?_
        have en : needI ((e.x.data.length : Nat) : Int) = (e.n : Int) := by unfold needI Ent.n; rw [if_neg (by omega), Int.toNat_natCast]
        rw [en]
        intro wa17
        replace h6 : St wa17 _ := h6.drew
        clear_value wa17
        have hcap := Row.cap h6.up4
        rw [w64_succ (by omega), Int.toNat_natCast, Int.toNat_natCast, slA0]
        refine ⟨by omega, by omega, by omega, by omega, ?_⟩
        have hh := h6.up4.has (by decide)
        have e1 : (ths es).take jj ++ (ths es).drop jj = ths es := List.take_append_drop _ _
        rw [← e1] at hh
        have hpre := Has.pre (sl := ⟨hv.a, jj, hv.cap⟩) (xs := (ths es).take jj) hh rfl (by rw [List.length_take, ths_len]; show jj = _; omega)
        have htl : ((ths es).take jj).length ≤ 2000 := by rw [List.length_take, ths_len]; omega
        refine St.copy elt_th h6 (sl := ⟨hv.a, jj, hv.cap⟩) hpre (fun hn => absurd (hn.symm.trans ha1) (by simp)) (by omega) (by omega) fun l5 w7 h7 => ?_
        have hh7 : Has ETh w7 hv (ths es) := h7.up5.has (by decide)
        have hpost := Has.post hh7 (k := jj + 1) (by rw [ths_len]; omega) hcap
        obtain ⟨bb, hbb⟩ := slA_some (a := a1) (cap := hv.cap) (k := jj + 1) (size := 5)
        have hbb2 : slA hv.a hv.cap (jj + 1) 5 = some bb := by rw [ha1]; exact hbb
        rw [show ETh.n = 5 from rfl, hbb2] at hpost
        rw [hbb2]
        refine St.app elt_th h7 hpost rfl (by rw [List.length_take, List.length_drop, ths_len]; omega) (by rw [List.length_take, List.length_drop, ths_len]; omega) fun l6 w8 h8 _ => ?_
        have e2 : (ths es).take jj ++ (ths es).drop (jj + 1) = ths (es.take jj ++ es.drop (jj + 1)) := by unfold ths; rw [List.map_append, List.map_take, List.map_drop]
        rw [e2] at h8
        have hbl3 : (dropD D e.ps).bs.length = D.bs.length := giveL_len _ _
        have hf3 := hH3.free
        have hf2 := hH2.free
        rw [allP_app] at hf3
        rw [allP_app, allP_cons] at hf2
        simp only [List.length_append, Ent.ps_len] at hf2 hf3
        rw [w64_id (by omega) (by omega)]
        exact ⟨dropD D e.ps, es.take jj ++ es.drop (jj + 1), c, by omega, by rw [hbl3]; exact hbl, hH3, by omega, h8.d3.d3.d3.d3⟩
      · refine ⟨_, h4.cell0, _, h4.up3.cell 4, ?_⟩
        have hH2 := hH
        rw [hsplit] at hH2
        refine F.chain_Refs_mono (R := fun n33 n34 w' => (n34 = 15 ∧ n33 = 0 ∧ (o.by_ < -e.x.refs ∨ 60000 - e.x.refs < o.by_) ∧ St w' (DeskS k g c D :: Cs y (thV e.x) T.y_masonrylaw12_there :: Row EI T.y_int dl (keysW (written D)) :: Cs z (opV o) T.y_masonrylaw12_Op :: Row ETh T.y_masonrylaw12_there hv (ths es) :: X)) ∨ (n34 = 0 ∧ n33 = e.x.refs + o.by_ ∧ -e.x.refs ≤ o.by_ ∧ o.by_ ≤ 60000 - e.x.refs ∧ ∃ D', D'.bs = D.bs ∧ Have D' (es.take jj ++ e.use (e.x.refs + o.by_) :: es.drop (jj + 1)) ∧ St w' (DeskS k g (c + 1) D' :: Cs y (thV e.x) T.y_masonrylaw12_there :: Row EI T.y_int dl (keysW (written D)) :: Cs z (opV o) T.y_masonrylaw12_Op :: Row ETh T.y_masonrylaw12_there hv (ths es) :: X))) ?_ ?_
        · exact Refs_E h4.up2 hH2 (by omega) (fun w6 hb h6 => .inl ⟨rfl, rfl, hb, h6⟩) fun w6 D' hlo hhi hbs hH3 h6 => .inr ⟨rfl, rfl, hlo, hhi, D', hbs, hH3, h6⟩
        rintro n33 n34 w6 hor
        have Z : ∃ D' c', St w6 (DeskS k g c' D' :: Cs y (thV e.x) T.y_masonrylaw12_there :: Row EI T.y_int dl (keysW (written D)) :: Cs z (opV o) T.y_masonrylaw12_Op :: Row ETh T.y_masonrylaw12_there hv (ths es) :: X) := by
          rcases hor with ⟨_, _, _, hh⟩ | ⟨_, _, _, _, D', _, _, hh⟩
          · exact ⟨_, _, hh⟩
          · exact ⟨_, _, hh⟩
        obtain ⟨DZ, cZ, hZ⟩ := Z
        have hZo := hZ.up3
        have hZt := hZ.sw
        have e60 : ∀ v : Int, -60000 ≤ v → v ≤ 60000 → w64 (e.x.refs + v) = e.x.refs + v := fun v h1 h2 => w64_id (by omega) (by omega)
        refine ⟨fun v w' => w' = w6 ∧ v = decide (o.by_ < -e.x.refs ∨ 60000 - e.x.refs < o.by_), ⟨_, hZo.cell 4, fun hh => ⟨rfl, by rw [eq_comm, decide_eq_true_iff]; omega⟩, fun g1 => ⟨_, hZo.cell 4, fun hh => ⟨rfl, by rw [eq_comm, decide_eq_true_iff]; omega⟩, fun g2 => ⟨_, hZt.cell 3, _, hZo.cell 4, fun hh => ⟨rfl, ?_⟩, fun g3 => ⟨_, hZt.cell 3, _, hZo.cell 4, rfl, ?_⟩⟩⟩⟩, ?_⟩
        · rw [e60 _ (by omega) (by omega)] at hh
          rw [eq_comm, decide_eq_true_iff]; omega
        · rw [e60 _ (by omega) (by omega)] at g3 ⊢
          rw [Bool.eq_iff_iff, decide_eq_true_iff, decide_eq_true_iff]; omega
        rintro v w7 ⟨rfl, rfl⟩
        refine ⟨fun hbad => ?_, fun hgood => ?_⟩
        · have hbad := of_decide_eq_true hbad
          rcases hor with ⟨r1, r2, _, h6⟩ | ⟨_, _, r3, r4, _⟩
          · subst r1 r2
            refine ⟨fun v w' => w' = w7 ∧ v = false, ⟨fun h => absurd rfl h, fun _ => ⟨rfl, rfl⟩⟩, ?_⟩
            rintro v w8 ⟨rfl, rfl⟩
            exact ⟨fun h => (by cases h), fun _ => ⟨D, es, c, by omega, hbl, hH, rfl, (h6.d2.d2.d2).sw⟩⟩
          · omega
        · have hgood := of_decide_eq_false hgood
          rcases hor with ⟨_, _, r3, _⟩ | ⟨r1, r2, r3, r4, D', hbs, hH3, h6⟩
          · exact absurd r3 hgood
          subst r1 r2
          refine ⟨fun v w' => w' = w7 ∧ v = false, ⟨fun h => absurd rfl h, fun _ => ⟨_, hZt.cell 3, _, hZo.cell 4, rfl, by rw [e60 _ (by omega) (by omega)]; simp⟩⟩, ?_⟩
          rintro v w8 ⟨rfl, rfl⟩
          refine ⟨fun h => (by cases h), fun _ => ?_⟩
          have h7 := h6.sw
          refine ⟨h7.wr (by simp), ?_⟩
          intro wa18
          replace h7 : St wa18 _ := h7.set 3 _
          clear_value wa18
          simp only [List.set_cons_zero, List.set_cons_succ] at h7
          -- there, desk, dirty, op, have
          refine St.copy elt_th h7 (h7.up4.has (by decide)) (Row.nilOk h7.up4) (by rw [ths_len]; omega) (by rw [ths_len]; omega) fun l7 w9 h9 => ?_
          have h10 := h9.sw
          refine ⟨_, h10.cell0, _, h10.cell 1, _, h10.cell 2, _, h10.cell 3, _, h10.cell 4, ?_⟩
          obtain ⟨a2, ha2, hb2, _⟩ := Has.th (h9.has (by decide)) (m := jj) (by rw [ths_len]; exact hjl)
          have hgt : (ths es)[jj]'(by rw [ths_len]; exact hjl) = e.x := by
            have h1 : (ths es)[jj]? = some e.x := by unfold ths; rw [List.getElem?_map, hgj]; rfl
            rw [List.getElem?_eq_getElem (by rw [ths_len]; exact hjl)] at h1
            exact Option.some.inj h1
          have hl7 := (h9.has (by decide)).1
          rw [ths_len] at hl7
          rw [Int.toNat_natCast]
          refine ⟨a2, ha2, by omega, by omega, ?_⟩
          have hjt : jj < (ths es).length := by rw [ths_len]; exact hjl
          -- five cells
          have p0 := Row.put h9 hjt (i := 0) (by decide) ha2 (y := e.x) (v := .int .i64 e.x.at_) (by rw [hgt]; rfl)
          rw [show ETh.n = 5 from rfl, Vc.addr_add0] at p0
          obtain ⟨q0, s0⟩ := p0
          refine ⟨q0, ?_⟩
          intro wb0
          replace s0 : St wb0 _ := s0
          clear_value wb0
          have p1 := Row.put s0 (k := jj) (by rw [List.length_set]; exact hjt) (i := 1) (by decide) ha2 (y := e.x) (v := .int .i64 e.x.gen) (by rw [List.getElem_set_self]; rfl)
          obtain ⟨q1, s1⟩ := p1
          refine ⟨q1, ?_⟩
          intro wb1
          replace s1 : St wb1 _ := s1
          clear_value wb1
          rw [List.set_set] at s1
          have p2 := Row.put s1 (k := jj) (by rw [List.length_set]; exact hjt) (i := 2) (by decide) ha2 (y := e.x) (v := .int .i64 e.x.tag) (by rw [List.getElem_set_self]; rfl)
          obtain ⟨q2, s2⟩ := p2
          refine ⟨q2, ?_⟩
          intro wb2
          replace s2 : St wb2 _ := s2
          clear_value wb2
          rw [List.set_set] at s2
          have p3 := Row.put s2 (k := jj) (by rw [List.length_set]; exact hjt) (i := 3) (by decide) ha2 (y := { e.x with refs := e.x.refs + o.by_ }) (v := .int .i64 (e.x.refs + o.by_)) (by rw [List.getElem_set_self]; rfl)
          obtain ⟨q3, s3⟩ := p3
          refine ⟨q3, ?_⟩
          intro wb3
          replace s3 : St wb3 _ := s3
          clear_value wb3
          rw [List.set_set] at s3
          have p4 := Row.put s3 (k := jj) (by rw [List.length_set]; exact hjt) (i := 4) (by decide) ha2 (y := { e.x with refs := e.x.refs + o.by_ }) (v := .string (tx e.x.data)) (by rw [List.getElem_set_self]; rfl)
          obtain ⟨q4, s4⟩ := p4
          refine ⟨q4, ?_⟩
          intro wb4
          replace s4 : St wb4 _ := s4
          clear_value wb4
          rw [List.set_set] at s4
          have e5 : (ths es).set jj { e.x with refs := e.x.refs + o.by_ } = ths (es.take jj ++ e.use (e.x.refs + o.by_) :: es.drop (jj + 1)) := by
            rw [hset]
            unfold ths
            rw [List.map_set]
            rfl
          rw [e5] at s4
          exact ⟨D', _, c + 1, by omega, by rw [hbs]; exact hbl, hH3, by rw [hbs], (s4.d2.d3.d3).d3⟩
    · -- the look at all
      rintro hv2 free2 w5 ⟨D2, es2, cc2, hc2, hbl2, hH2, rfl, h5⟩
      have hel2 := es_len hH2.ok
      have hfree2 := hH2.free
      refine ⟨fun all j w' => ∃ q : Nat, j = q ∧ q ≤ es2.length ∧ St w' (Row EI T.y_int all (nextT (allP (es2.take q))) :: Row ETh T.y_masonrylaw12_there hv2 (ths es2) :: DeskS k g cc2 D2 :: X), fun _ j _ => ((es2.length : Int) - j).toNat, ⟨0, rfl, Nat.zero_le _, ?_⟩, ?_⟩
      · have e : nextT (allP (es2.take 0)) = [] := List.eq_nil_of_length_eq_zero (by rw [nextT_nd (by simp [allP])]; rfl)
        rw [e]
        exact h5.row0 EI T.y_int
      rintro all j w6 ⟨q, rfl, hq, h6⟩
      have hhl := (h6.sw.has (by decide)).1
      rw [ths_len] at hhl
      refine ⟨fun hlt => ?_, fun hge => ?_⟩
      · have hlt : q < es2.length := by omega
        have hem : es2[q] ∈ es2 := List.getElem_mem hlt
        have hok := hH2.ok _ hem
        have TH : ∀ {w'} {Y : List As}, St w' (Row ETh T.y_masonrylaw12_there hv2 (ths es2) :: Y) → ∃ ad, hv2.a = some ad ∧ w'.cell? (ad.add (q * 5)) = some (.int .i64 es2[q].x.at_) ∧ w'.cell? ((ad.add (q * 5)).add 1) = some (.int .i64 es2[q].x.gen) ∧ w'.cell? ((ad.add (q * 5)).add 2) = some (.int .i64 es2[q].x.tag) ∧ w'.cell? ((ad.add (q * 5)).add 3) = some (.int .i64 es2[q].x.refs) ∧ w'.cell? ((ad.add (q * 5)).add 4) = some (.string (tx es2[q].x.data)) := fun hw => by
          obtain ⟨ad, t1, t2, t3, t4, t5, t6, t7⟩ := Has.th (hw.has (by decide)) (m := q) (by rw [ths_len]; exact hlt)
          rw [ths_get hlt] at t3 t4 t5 t6 t7
          exact ⟨ad, t1, t3, t4, t5, t6, t7⟩
        have hsplit : es2 = es2.take q ++ es2[q] :: es2.drop (q + 1) := by rw [← List.drop_eq_getElem_cons hlt, List.take_append_drop]
        have htake : es2.take (q + 1) = es2.take q ++ [es2[q]] := List.take_succ_eq_append_getElem hlt
        have hnd : (allP (es2.take q) ++ es2[q].ps).Nodup := by
          have := hH2.nd
          rw [hsplit, allP_app, allP_cons, ← List.append_assoc] at this
          exact (List.nodup_append.1 this).1
        have hpsl : es2[q].ps.length = es2[q].n := es2[q].ps_len
        have hnn : es2[q].n = needN es2[q].x.data.length := rfl
        have hp0 := hok.chn.pos
        have hat0 : es2[q].ps[0]? = some es2[q].x.at_ := by
          have := hok.at_
          unfold Ent.ps
          rw [List.getElem?_map, List.getElem?_range (by omega)]
          simp only [Option.map_some, this]
        have hdl := hok.len
        generalize hE : es2[q] = e at *
        obtain ⟨a3, ha3, d0, d1, d2, d3, d4⟩ := TH h6.sw
        refine ⟨a3, ha3, by omega, by omega, _, d0, ?_⟩
        refine Get_E h6.up2 hH2 hem fun w7 h7 => ?_
        intro wa19
        replace h7 : St wa19 (Cs _ _ _ :: _) := h7.new _ _
        clear_value wa19
        refine ⟨h7.wr0 (by simp), ?_⟩
        intro wa20
        replace h7 : St wa20 _ := h7.set0 _
        clear_value wa20
        refine ⟨h7.wr (by simp), ?_⟩
        intro wa21
        replace h7 : St wa21 _ := h7.set 1 _
        clear_value wa21
        refine ⟨h7.wr (by simp), ?_⟩
        intro wa22
        replace h7 : St wa22 _ := h7.set 2 _
        clear_value wa22
        refine ⟨h7.wr (by simp), ?_⟩
        intro wa23
        replace h7 : St wa23 _ := h7.set 3 _
        clear_value wa23
        simp only [List.set_cons_zero, List.set_cons_succ] at h7
        generalize w7.heap.size = y at *
        obtain ⟨a4, ha4, d0, d1, d2, d3, d4⟩ := TH h7.up3
        refine ⟨a4, ha4, by omega, by omega, _, d0, ?_⟩
        refine Sectors_E h7.sw hH2 hem fun pl w8 h8 => ?_
        have hpl := (h8.has (by decide)).1
        refine ⟨fun v w' => v = false ∧ St w' (Row EI T.y_int pl e.ps :: DeskS k g cc2 D2 :: Cs y [.int .i64 e.x.gen, .int .i64 e.x.tag, .int .i64 e.x.refs, .string (tx e.x.data)] T.y_chain_Chain :: Row EI T.y_int all (nextT (allP (es2.take q))) :: Row ETh T.y_masonrylaw12_there hv2 (ths es2) :: X), ?_, ?_⟩
        · intro wa24
          replace h8 : St wa24 _ := h8.drew
          clear_value wa24
          refine ⟨fun h => absurd rfl h, fun _ => ?_⟩
          have q2 := h8.up2
          obtain ⟨a5, ha5, d0, d1, d2, d3, d4⟩ := TH h8.up4
          obtain ⟨a6, ha6, f0⟩ := Has.int (h8.has (by decide)) (m := 0) (by omega)
          refine ⟨_, q2.cell0, _, q2.cell 1, _, q2.cell 2, _, q2.cell 3, a5, ha5, by omega, by omega, _, d1, a5, ha5, by omega, by omega, _, d2, a5, ha5, by omega, by omega, _, d3, a5, ha5, by omega, by omega, _, d4, fun hbad => (by rw [tx_eq] at hbad; simp at hbad), fun _ => ⟨fun h => absurd rfl h, fun _ => ⟨a5, ha5, by omega, by omega, _, d4, ?_⟩⟩⟩
          rw [tx_size]
          refine need12_st (by omega) ⟨d4, d4, d3, d2, d1, q2.cell0, q2.cell 1, q2.cell 2, q2.cell 3, fun hne => ?_, fun _ => ⟨a6, ha6, by decide, by omega, _, f0.2, a5, ha5, by omega, by omega, _, d0, ?_, h8⟩⟩
          · exfalso
            apply hne
            unfold needI
            rw [if_neg (by omega), Int.toNat_natCast, hpl, hpsl, hnn]
          · rw [List.getElem?_eq_getElem (by omega)] at hat0
            simp only [Option.some.injEq] at hat0
            rw [hat0]; simp
        rintro v w9 ⟨rfl, h9⟩
        refine ⟨fun h => (by cases h), fun _ => ?_⟩
        refine ⟨fun all1 v w' => ∃ u : Nat, v = u ∧ u ≤ e.n ∧ St w' (Row EI T.y_int all1 (nextT (allP (es2.take q) ++ e.ps.take u)) :: Row EI T.y_int pl e.ps :: DeskS k g cc2 D2 :: Cs y [.int .i64 e.x.gen, .int .i64 e.x.tag, .int .i64 e.x.refs, .string (tx e.x.data)] T.y_chain_Chain :: Row ETh T.y_masonrylaw12_there hv2 (ths es2) :: X), fun _ v _ => ((e.n : Int) - v).toNat, ⟨0, rfl, Nat.zero_le _, by rw [List.take_zero, List.append_nil]; exact h9.up3⟩, ?_⟩
        rintro all1 v w10 ⟨u, rfl, hu, h10⟩
        refine ⟨fun hlu => ?_, fun hgu => ?_⟩
        · have hlu : u < e.n := by omega
          obtain ⟨a7, ha7, _, f1⟩ := Has.int (h10.sw.has (by decide)) (m := u) (by omega)
          have hps : e.ps.take (u + 1) = e.ps.take u ++ [e.ps[u]'(by omega)] := List.take_succ_eq_append_getElem (by omega)
          have hsub : (allP (es2.take q) ++ e.ps.take (u + 1)).Nodup := by
            refine hnd.sublist ?_
            exact List.Sublist.append (List.Sublist.refl _) (List.take_sublist _ _)
          rw [hps, ← List.append_assoc] at hsub
          have hno : e.ps[u]'(by omega) ∉ allP (es2.take q) ++ e.ps.take u := fun hm => (List.nodup_append.1 hsub).2.2 _ hm _ (List.mem_singleton.2 rfl) rfl
          have hnl : (nextT (allP (es2.take q) ++ e.ps.take u)).length ≤ 1000000 := by
            rw [nextT_nd (List.nodup_append.1 hsub).1]
            have h1 : (allP (es2.take q) ++ e.ps.take u).length ≤ (allP es2).length := by
              have e2 : (allP es2).length = (allP (es2.take q)).length + (e.ps.length + (allP (es2.drop (q + 1))).length) := by
                conv => lhs; rw [hsplit]
                rw [allP_app, allP_cons, List.length_append, List.length_append]
              rw [List.length_append, List.length_take, e2]; omega
            omega
          refine ⟨a7, ha7, by omega, by omega, _, f1, Among_st (St.ints h10) hnl ?_⟩
          rw [decide_eq_false (fun hm => hno (((nextT_up _).2 _).1 hm))]
          refine ⟨fun h => (by cases h), fun _ => ⟨a7, ha7, by omega, by omega, _, f1, ?_⟩⟩
          refine Put_st h10 hnl fun l9 w11 h11 => ?_
          rw [putU_next, List.append_assoc, ← hps] at h11
          rw [w64_succ (by omega)]
          exact ⟨⟨u + 1, rfl, hlu, h11⟩, by show ((e.n : Int) - ((u + 1 : Nat) : Int)).toNat < ((e.n : Int) - (u : Int)).toNat; omega⟩
        · have huu : u = e.n := by omega
          subst huu
          rw [List.take_of_length_le (l := e.ps) (by omega)] at h10
          rw [w64_succ (by omega)]
          refine ⟨⟨q + 1, rfl, hlt, ?_⟩, by show ((es2.length : Int) - ((q + 1 : Nat) : Int)).toNat < ((es2.length : Int) - (q : Int)).toNat; omega⟩
          have e1 : allP (es2.take (q + 1)) = allP (es2.take q) ++ e.ps := by rw [htake, allP_app, allP_cons]; simp [allP]
          rw [e1]
          have h11 := h10.d2.d3
          exact h11.up2.sw
      · have hqq : q = es2.length := by omega
        subst hqq
        rw [List.take_length] at h6
        refine Room_st h6.up2 fun r w7 h7 => ⟨fun h => (by cases h), fun _ => ?_⟩
        refine All_st h7 (by omega) fun l10 w8 h8 => ?_
        intro wa25
        replace h8 : St wa25 (Cs _ _ _ :: _) := h8.new _ _
        clear_value wa25
        have h9 := h8.rowLit (En := EI) (xs := [0, 1]) rfl rfl (by decide)
        have hnl : (nextT (allP es2)).length ≤ 2000 := by rw [nextT_nd hH2.nd]; omega
        refine St.appN elt_int h9 (sl := all) (ys := nextT (allP es2)) (h9.up4.has (by decide)) (Row.nilOk h9.up4) (by simp only [List.length_cons, List.length_nil]; omega) (by simp only [List.length_cons, List.length_nil]; omega) fun l11 w9 h10 _ => ?_
        refine SameI_st h10 (xs := allL D2.bs D2.bs.length) (ys := [0, 1] ++ nextT (allP es2)) (fun w' hw => hw.sw.has (by decide)) (fun w' hw => hw.has (by decide)) (by have := allL_len D2.bs D2.bs.length; omega) fun w10 h11 => ?_
        rw [decide_eq_true (show allL D2.bs D2.bs.length = [0, 1] ++ nextT (allP es2) from hH2.all)]
        refine ⟨fun h => (by cases h), fun _ => Free_st h11.up2 (by omega) fun w11 h12 => ?_⟩
        have e : ((D2.bs.length : Nat) : Int) - (((allL D2.bs D2.bs.length).length : Nat) : Int) = (freeN D2.bs : Int) := by
          have h1 := freeN_all D2.bs
          have h2 := allL_len D2.bs D2.bs.length
          omega
        rw [e]
        refine ⟨fun h => absurd rfl h, fun _ => ?_⟩
        rw [w64_succ (by omega)]
        exact ⟨⟨m + 1, D2, es2, cc2, rfl, by omega, hc2, hbl2, hH2, rfl, h12.drop.drop.drop.d2.sw⟩, hme rfl⟩
  · have hi : imin size 1099511627776 ≤ 1099511627776 := by unfold imin; split <;> omega
    refine Need_all hi (need12_st hi ?_)
    rw [beq_self_eq_true]
    exact hR _ h3.drop.drop
end
end Go.Proofs.YtmokmbhhnbcelaaGreatDoor
