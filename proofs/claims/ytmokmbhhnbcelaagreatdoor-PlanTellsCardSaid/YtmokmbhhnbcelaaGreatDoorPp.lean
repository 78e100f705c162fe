/- masonrylaw20: alive. -/
import Derived.Test.YtmokmbhhnbcelaaGreatDoorPg
import Derived.Test.YtmokmbhhnbcelaaGreatDoorPk
import Derived.Test.YtmokmbhhnbcelaaGreatDoorPm
set_option linter.unusedVariables false
namespace Go.Proofs.YtmokmbhhnbcelaaGreatDoor
open Go Go.Vc Go.RowKit Go.Lib

section
variable {w : World} {X : List As}
set_option maxHeartbeats 1000000 in
theorem alive20_st (h : St w X) {R : Bool → World → Prop} (hR : ∀ w', St w' X → R true w') : F.masonrylaw20_alive w R := by
  apply E.masonrylaw20_alive
  unfold V.masonrylaw20_alive
  try simp (config := { zeta := false }) only [cnd_all, Nat.reduceAdd]
  have hf : freeN (fmt0 150).bs = 37 := by rw [fmt0_bs, freeN_bs0 (by decide)]
  have hb : (fmt0 150).bs.length = 39 := by rw [fmt0_bs, bs0_len]
  refine Fresh_st h (n := 150) (by decide) (by decide) fun k g w1 h1 => ⟨fun h => (by cases h), fun _ => ?_⟩
  intro wa1
  replace h1 : St wa1 (Cs _ _ _ :: _) := h1.new _ _
  clear_value wa1
  generalize w1.heap.size = z at *
  have hu0 := (DeskS.ok h1.sw).u0
  have hm : mayP 2 [(5, 4), (6, 128)] = 0 := by decide
  have hN : needN (layP [(5, 4), (6, 128)]).length = 1 := by rw [layP_len]; decide
  refine Put_plan h1.sw (l := [(5, 4), (6, 128)]) (fun w' hw => hw.lit rfl rfl 2) (by decide) (by decide) (fun w' hne => absurd hm hne) (fun w' _ hlf _ => by omega) fun w2 _ hle h2 => ?_
  have hhas := put_has (D := fmt0 150) (gen := 2) (tag := 2) (b := layP [(5, 4), (6, 128)]) (by omega)
  have hchn := putS_chn (D := fmt0 150) (gen := 2) (tag := 2) (b := layP [(5, 4), (6, 128)]) (by decide) (by decide) (by rw [layP_len]; decide) rfl hle (by omega) hu0
  have hpr := placeP_range (fmt0 150) (needN (layP [(5, 4), (6, 128)]).length) 0
  have hdat := dataOf_put (D := fmt0 150) (gen := 2) (tag := 2) (b := layP [(5, 4), (6, 128)]) (by rw [layP_len]; decide) (n := needN (layP [(5, 4), (6, 128)]).length)
  have hx0 : (linkP (fmt0 150) 2 2 (layP [(5, 4), (6, 128)]) (needN (layP [(5, 4), (6, 128)]).length) 0).gen = 2 ∧ (linkP (fmt0 150) 2 2 (layP [(5, 4), (6, 128)]) (needN (layP [(5, 4), (6, 128)]).length) 0).tag = 2 ∧ (linkP (fmt0 150) 2 2 (layP [(5, 4), (6, 128)]) (needN (layP [(5, 4), (6, 128)]).length) 0).refs = 1 := ⟨rfl, rfl, rfl⟩
  have hw := hchn.walk hhas
  rw [hN] at hw hhas hchn hdat hpr hx0 h2 ⊢
  have hpc : pcs (layP [(5, 4), (6, 128)]) 2 = [(5, 4), (6, 128)] := pcs_lay (l := [(5, 4), (6, 128)]) (by decide)
  have hll := layP_len [(5, 4), (6, 128)]
  generalize layP [(5, 4), (6, 128)] = s at *
  generalize linkP (fmt0 150) 2 2 s 1 = L at *
  generalize placeP (fmt0 150) 1 = P at *
  have hl1 : s.length = 6 := hll
  have hw1 : (walkD (putS (fmt0 150) 2 2 s 1 1).1 (P 0)).1 = [L 0] := by rw [hw]; rfl
  have hok : PlOk (L 0) (dataOf [L 0]) := by
    have e : dataOf [L 0] = s := by rw [← hdat]; rfl
    rw [e]
    exact ⟨hx0.2.1, by rw [hl1], by rw [hx0.1, hl1]; rw [show 6 / 3 = 2 from rfl, hpc]; exact hm⟩
  have ed : dataOf [L 0] = s := by rw [← hdat]; rfl
  refine Get_plan h2 (by omega) (fun x xs hx => ?_) (fun w3 he => absurd (by rw [hw]) he) (fun x xs w3 hx _ hno => ?_) fun x xs pl w3 hx _ _ h3 => ?_
  · rw [hw1] at hx
    simp only [List.cons.injEq] at hx
    rw [← hx.1, ← hx.2, ed, hl1]; decide
  · rw [hw1] at hx
    simp only [List.cons.injEq] at hx
    rw [← hx.1, ← hx.2] at hno
    exact absurd hok hno
  rw [hw1] at hx
  simp only [List.cons.injEq] at hx
  obtain ⟨rfl, rfl⟩ := hx
  rw [ed, hl1, show 6 / 3 = 2 from rfl, hpc] at h3
  rw [hx0.1, hx0.2.2]
  intro wa2
  replace h3 : St wa2 (Cs _ _ _ :: _) := h3.new _ _
  clear_value wa2
  refine ⟨h3.wr0 (by simp), ?_⟩
  intro wa3
  replace h3 : St wa3 _ := h3.set0 _
  clear_value wa3
  refine ⟨h3.wr (by simp), ?_⟩
  intro wa4
  replace h3 : St wa4 _ := h3.set 1 _
  clear_value wa4
  refine ⟨h3.wr (by simp), ?_⟩
  intro wa5
  replace h3 : St wa5 _ := h3.set 2 _
  clear_value wa5
  simp only [List.set_cons_zero, List.set_cons_succ] at h3
  intro wa6
  have h4 : St wa6 (Cs _ _ _ :: _) := h3.new _ _
  clear_value wa6
  have hc : cutV 3 5 [(1, 4), (2, 4)] = ⟨8, [(1, 4), (2, 4)], 3, 3⟩ := by rfl
  refine Cut_plan h4 (l := [(1, 4), (2, 4)]) (fun w' hw => hw.lit rfl rfl 2) (by unfold LenOk; decide) (by decide) fun o w5 h5 => ?_
  rw [hc] at h5 ⊢
  have ho : o.len = 2 := (h5.has (by decide)).1
  refine ⟨fun _ => ⟨fun _ => ⟨_, h5.up2.cell0, fun _ => ⟨_, h5.up2.cell 1, fun _ => ⟨pl, h5.up2.cell 2, SameP_st h5 (xs := [(5, 4), (6, 128)]) (ys := [(5, 4), (6, 128)]) (fun w' hw => hw.up3.has (by decide)) (fun w' hw => hw.up5.lit rfl rfl 2) (by decide) fun w6 h6 => ?_⟩, fun h => absurd rfl h⟩, fun h => absurd rfl h⟩, fun h => absurd rfl h⟩, fun h => absurd rfl h⟩
  rw [decide_eq_true rfl]
  refine ⟨fun _ => Size_plan h6 (l := [(5, 4), (6, 128)]) (fun w' hw => hw.up5.lit rfl rfl 2) (by unfold LenOk; decide) (by decide) fun w7 h7 => ?_, fun h => (by cases h)⟩
  have e132 : sumP [(5, 4), (6, 128)] = 132 := by decide
  rw [e132]
  refine ⟨fun _ => ⟨fun _ => ⟨fun _ => ?_, fun h => absurd rfl h⟩, fun h => by omega⟩, fun h => absurd rfl h⟩
  exact hR _ h7.drop.drop.drop.drop.drop.drop
end
end Go.Proofs.YtmokmbhhnbcelaaGreatDoor

/- plan: its calls, of a chain that is there. -/
set_option linter.unusedVariables false
namespace Go.Proofs.YtmokmbhhnbcelaaGreatDoor
open Go Go.Vc Go.RowKit Go.Lib

/-- a chain is a plan -/
def PlE (x : Th) : Prop := x.tag = 2 ∧ x.data.length % 3 = 0 ∧ mayP x.gen (pcs x.data (x.data.length / 3)) = 0
section
variable {w : World} {X : List As} {k g c : Nat} {D : DkV} {e : Ent} {es : List Ent}
theorem Get_planE (h : St w (DeskS k g c D :: X)) (hH : Have D es) (he : e ∈ es) (hd : e.x.data.length ≤ 3000) {R : Int → Int → Sl → Int → World → Prop}
    (hB : ∀ w', ¬ PlE e.x → St w' (DeskS k g c D :: X) → R 0 0 ⟨none, 0, 0⟩ 25 w')
    (hR : ∀ pl w', PlE e.x → St w' (Row EPc T.y_api_Piece pl (pcs e.x.data (e.x.data.length / 3)) :: DeskS k g c D :: X) → R e.x.gen e.x.refs pl 0 w') : F.plan_Get (some (blk k)) e.x.at_ w R := by
  have h1 := hH.ok e he
  have ha := hH.at_ he
  obtain ⟨xs, hxs⟩ := h1.cons
  have hw := h1.walk
  have hdat := h1.dat
  rw [hxs] at hw hdat
  have hok : PlOk (e.L 0) e.x.data ↔ PlE e.x := by unfold PlOk PlE; rw [h1.hd.1, h1.hd.2.1]
  refine Get_plan h (by omega) (fun x ys hx => ?_) (fun w' he _ => absurd (by rw [hw]) he) (fun x ys w' hx _ hno h2 => ?_) fun x ys pl w' hx _ hp h2 => ?_
  · rw [hw] at hx
    simp only [List.cons.injEq] at hx
    rw [← hx.1, ← hx.2, hdat]; exact hd
  · rw [hw] at hx
    simp only [List.cons.injEq] at hx
    rw [← hx.1, ← hx.2, hdat, hok] at hno
    exact hB w' hno h2
  · rw [hw] at hx
    simp only [List.cons.injEq] at hx
    rw [← hx.1, ← hx.2, hdat] at hp h2
    rw [← hx.1, h1.hd.1, h1.hd.2.2]
    exact hR pl w' (hok.1 hp) h2
theorem Use_planE {a b : List Ent} (h : St w (DeskS k g c D :: X)) (hH : Have D (a ++ e :: b)) (hc : c ≤ 1000000) (hd : e.x.data.length ≤ 3000) {by_ : Int} {R : Int → Int → World → Prop}
    (hN : ∀ w', ¬ PlE e.x → St w' (DeskS k g c D :: X) → R 0 25 w')
    (hB : ∀ w', PlE e.x → (by_ < -e.x.refs ∨ 60000 - e.x.refs < by_) → St w' (DeskS k g c D :: X) → R 0 15 w')
    (hR : ∀ w' D', PlE e.x → -e.x.refs ≤ by_ → by_ ≤ 60000 - e.x.refs → D'.bs = D.bs → Have D' (a ++ e.use (e.x.refs + by_) :: b) → St w' (DeskS k g (c + 1) D' :: X) → R (e.x.refs + by_) 0 w') : F.plan_Use (some (blk k)) e.x.at_ by_ w R := by
  apply E.plan_Use
  unfold V.plan_Use
  try simp (config := { zeta := false }) only [cnd_all, Nat.reduceAdd]
  refine Get_planE h hH (by simp) hd (fun w1 hno h1 => ?_) fun pl w1 hp h1 => ?_
  · intro wa1
    replace h1 : St wa1 (Cs _ _ _ :: _) := h1.new _ _
    clear_value wa1
    refine ⟨h1.wr0 (by simp), ?_⟩
    intro wa2
    replace h1 : St wa2 _ := h1.set0 _
    clear_value wa2
    refine ⟨h1.wr (by simp), ?_⟩
    intro wa3
    replace h1 : St wa3 _ := h1.set 1 _
    clear_value wa3
    refine ⟨h1.wr (by simp), ?_⟩
    intro wa4
    replace h1 : St wa4 _ := h1.set 2 _
    clear_value wa4
    simp only [List.set_cons_zero, List.set_cons_succ] at h1
    exact ⟨fun _ => hN _ hno h1.drop, fun h => absurd h (by decide)⟩
  · intro wa5
    replace h1 : St wa5 (Cs _ _ _ :: _) := h1.new _ _
    clear_value wa5
    refine ⟨h1.wr0 (by simp), ?_⟩
    intro wa6
    replace h1 : St wa6 _ := h1.set0 _
    clear_value wa6
    refine ⟨h1.wr (by simp), ?_⟩
    intro wa7
    replace h1 : St wa7 _ := h1.set 1 _
    clear_value wa7
    refine ⟨h1.wr (by simp), ?_⟩
    intro wa8
    replace h1 : St wa8 _ := h1.set 2 _
    clear_value wa8
    simp only [List.set_cons_zero, List.set_cons_succ] at h1
    exact ⟨fun h => absurd rfl h, fun _ => Refs_E h1.drop.drop hH hc (fun w' hb h' => hB w' hp hb h') fun w' D' hlo hhi hbs hH' h' => hR w' D' hp hlo hhi hbs hH' h'⟩
theorem Drop_planE {a b : List Ent} (h : St w (DeskS k g c D :: X)) (hH : Have D (a ++ e :: b)) (hd : e.x.data.length ≤ 3000) {R : Int → World → Prop}
    (hN : ∀ w', ¬ PlE e.x → St w' (DeskS k g c D :: X) → R 25 w')
    (hR : ∀ w', PlE e.x → Have (dropD D e.ps) (a ++ b) → St w' (DeskS k g c (dropD D e.ps) :: X) → R 0 w') : F.plan_Drop (some (blk k)) e.x.at_ w R := by
  apply E.plan_Drop
  unfold V.plan_Drop
  try simp (config := { zeta := false }) only [cnd_all, Nat.reduceAdd]
  refine Get_planE h hH (by simp) hd (fun w1 hno h1 => ?_) fun pl w1 hp h1 => ?_
  · intro wa1
    replace h1 : St wa1 (Cs _ _ _ :: _) := h1.new _ _
    clear_value wa1
    refine ⟨h1.wr0 (by simp), ?_⟩
    intro wa2
    replace h1 : St wa2 _ := h1.set0 _
    clear_value wa2
    refine ⟨h1.wr (by simp), ?_⟩
    intro wa3
    replace h1 : St wa3 _ := h1.set 1 _
    clear_value wa3
    refine ⟨h1.wr (by simp), ?_⟩
    intro wa4
    replace h1 : St wa4 _ := h1.set 2 _
    clear_value wa4
    simp only [List.set_cons_zero, List.set_cons_succ] at h1
    exact ⟨fun _ => hN _ hno h1.drop, fun h => absurd h (by decide)⟩
  · intro wa5
    replace h1 : St wa5 (Cs _ _ _ :: _) := h1.new _ _
    clear_value wa5
    refine ⟨h1.wr0 (by simp), ?_⟩
    intro wa6
    replace h1 : St wa6 _ := h1.set0 _
    clear_value wa6
    refine ⟨h1.wr (by simp), ?_⟩
    intro wa7
    replace h1 : St wa7 _ := h1.set 1 _
    clear_value wa7
    refine ⟨h1.wr (by simp), ?_⟩
    intro wa8
    replace h1 : St wa8 _ := h1.set 2 _
    clear_value wa8
    simp only [List.set_cons_zero, List.set_cons_succ] at h1
    exact ⟨fun h => absurd rfl h, fun _ => Drop_E h1.drop.drop hH fun w' hH' h' => hR w' hp hH' h'⟩
end
end Go.Proofs.YtmokmbhhnbcelaaGreatDoor
