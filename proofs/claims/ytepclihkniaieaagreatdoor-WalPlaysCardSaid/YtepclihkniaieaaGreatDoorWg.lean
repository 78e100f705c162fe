/- wal: what home is; commits and opening told by it; masonrylaw9: again, is, round, many, after, alive. -/
import Derived.Test.YtepclihkniaieaaGreatDoorWd
set_option linter.unusedVariables false
namespace Go.Proofs.YtepclihkniaieaaGreatDoor
open Go Go.Vc Go.RowKit Go.Lib Go.Maps Go.Proofs

theorem getD_at (l : List Bs) {i : Nat} (h : i < l.length) : l.getD i [] = l[i] := by simp [h]
/-- home, as opening makes it -/
def homeL (l : List Bs) : List Bs := (recL l).drop 111
theorem recL_len (l : List Bs) : (recL l).length = l.length := by unfold recL; split <;> simp [setAll_len]
theorem homeL_len (l : List Bs) : (homeL l).length = l.length - 111 := by simp [homeL, recL_len]
theorem homeL_get (l : List Bs) (i : Nat) : (homeL l).getD i [] = (recL l).getD (111 + i) [] := by simp [homeL, List.getD_eq_getElem?_getD]
theorem list_ext {a b : List Bs} (hl : a.length = b.length) (h : ∀ i : Nat, i < a.length → a.getD i [] = b.getD i []) : a = b :=
  List.ext_getElem hl fun i h1 h2 => by have := h i h1; simpa [h1, h2] using this
theorem homeL_ext {l l' : List Bs} (hl : l'.length = l.length) (h : ∀ i : Nat, 111 + i < l.length → (recL l').getD (111 + i) [] = (recL l).getD (111 + i) []) : homeL l' = homeL l :=
  list_ext (by simp [homeL_len, hl]) fun i hi => by
    rw [homeL_len] at hi
    rw [homeL_get, homeL_get]; exact h i (by omega)
theorem Quiet.home {d : Ds} {seq : Int} (h : Quiet d seq) (hs : 0 ≤ seq) (i : Nat) : (homeL d.l).getD i [] = homeAt d i := by
  rw [homeL_get, (h.snd (c := seq) ⟨hs, Int.le_refl _⟩).2.2]; rfl
theorem setAll_get : ∀ (ws : List Wr1) (l : List Bs) (i : Nat), (∀ x ∈ ws, 0 ≤ x.1) → i < l.length → (setAll l ws).getD i [] = if (i : Int) ∈ keysW ws then lastW ws i else l.getD i [] := by
  refine snoc_ind (fun l i _ _ => by simp [setAll, keysW]) fun ws p ih l i h0 hi => ?_
  have hp := h0 p (List.mem_append.2 (.inr (List.mem_cons_self ..)))
  rw [setAll_app, lastW_app]
  show ((setAll l ws).set p.1.toNat p.2).getD i [] = _
  have hl := setAll_len ws l
  by_cases h : p.1 = (i : Int)
  · rw [if_pos h, if_pos (by simp [keysW, h])]
    have e : p.1.toNat = i := by omega
    rw [e]
    simp [show i < (setAll l ws).length by omega]
  · rw [if_neg h]
    have e : ((setAll l ws).set p.1.toNat p.2).getD i [] = (setAll l ws).getD i [] := by
      simp only [List.getD_eq_getElem?_getD]
      rw [List.getElem?_set_ne (by omega)]
    rw [e, ih l i (fun x hx => h0 x (List.mem_append.2 (.inl hx))) hi]
    have : ((i : Int) ∈ keysW (ws ++ [p])) = ((i : Int) ∈ keysW ws) := by
      simp only [keysW, List.map_append, List.map_cons, List.map_nil, List.mem_append, List.mem_cons, List.not_mem_nil, or_false]
      exact propext ⟨fun hx => hx.resolve_right fun e => h e.symm, .inl⟩
    simp only [this]
theorem home_commit {d : Ds} {seq : Int} {ws : List Wr1} (hq : Quiet d seq) (hs0 : 0 ≤ seq) (hs1 : seq < 1099511627776) (hE : lastE (sizeD d) ws = 0) : homeL (commitD d seq ws).l = setAll (homeL d.l) ws := by
  obtain ⟨q1, q2, q3, q4⟩ := commit_facts hq hs0 hs1 hE
  have hlo := hq.lo
  refine list_ext (by rw [setAll_len, homeL_len, homeL_len, q2]) fun i hi => ?_
  rw [homeL_len, q2] at hi
  rw [q1.home (by omega), q4 i (by omega), setAll_get ws _ i (fun x hx => ((lastE_zero hE).1 x hx).1) (by rw [homeL_len]; omega), hq.home hs0]
theorem home_torn {d : Ds} {seq : Int} {ws : List Wr1} {l' : List Bs} (hq : Quiet d seq) (hs0 : 0 ≤ seq) (hs1 : seq < 1099511627776) (hE : lastE (sizeD d) ws = 0) (hne : ws ≠ []) (ht : TornC d.l seq ws l') :
    Snd l' (seq + 1) ∧ l'.length = d.l.length ∧ (homeL l' = homeL d.l ∨ homeL l' = setAll (homeL d.l) ws) := by
  obtain ⟨h1, h2, h3⟩ := torn_commit hq hs0 hs1 hE hne ht
  obtain ⟨q1, q2, q3, q4⟩ := commit_facts hq hs0 hs1 hE
  have e1 := (hq.snd (c := seq) ⟨hs0, Int.le_refl _⟩).2.2
  have e2 := (q1.snd (c := seq + 1) ⟨by omega, Int.le_refl _⟩).2.2
  refine ⟨h1, h2, ?_⟩
  rcases h3 with h3 | h3
  · exact .inl (homeL_ext h2 fun i hi => by rw [h3 i hi, e1]; rfl)
  · refine .inr ?_
    rw [← home_commit hq hs0 hs1 hE]
    exact homeL_ext (by rw [h2, q2]) fun i hi => by rw [q2] at hi; rw [h3 i hi, e2]; rfl

section
variable {w w' : World} {X : List As} {u g : Nat} {d : Ds} {s : WlS}
theorem Commit_q {seq commits : Int} {sl : Sl} {ws : List Wr1} (h : St w (WalS u g ⟨seq, false, commits⟩ :: DskS g d :: X)) (hq : Quiet d seq) (hx : ∀ w', St w' X → Has EW w' sl ws) (hl : ws.length ≤ 1000000)
    (hs0 : 0 ≤ seq) (hs1 : seq < 1099511627776) (hc : 0 ≤ commits ∧ commits < 1000000000000) (hm : d.many < 999999999000) {R : Int → World → Prop}
    (hE : ∀ w', lastE (sizeD d) ws ≠ 0 → St w' (WalS u g ⟨seq, false, commits⟩ :: DskS g d :: X) → R (lastE (sizeD d) ws) w')
    (hR : ∀ d' w', lastE (sizeD d) ws = 0 → Quiet d' (if ws = [] then seq else seq + 1) → d'.l.length = d.l.length → homeL d'.l = setAll (homeL d.l) ws → d'.many ≤ d.many + 300 → d'.armed = d.armed → St w' (WalS u g ⟨if ws = [] then seq else seq + 1, false, if ws = [] then commits else commits + 1⟩ :: DskS g d' :: X) → R 0 w')
    (hF : lastE (sizeD d) ws = 0 → ws ≠ [] → d.armed = true → ∀ seq' l' many w', Snd l' (seq + 1) → l'.length = d.l.length → (homeL l' = homeL d.l ∨ homeL l' = setAll (homeL d.l) ws) → 0 ≤ many ∧ many ≤ d.many + 300 → St w' (WalS u g ⟨seq', true, commits⟩ :: DskS g (offD l' many) :: X) → R 14 w') : F.wal_Wal_Commit (some (blk u)) sl w R := by
  have hm0 := hq.many
  refine Commit_st h hq.off hq.ws hq.safe hx hl hq.lo hq.hi hs0 hs1 hc (by omega) hE (fun w1 he h1 => ?_) (fun w1 he hne h1 => ?_) fun he hne ha seq' l' many w1 ht hm1 h1 => ?_
  · subst he
    refine hR d w1 ?_ (by rw [if_pos rfl]; exact hq) rfl rfl (by omega) rfl (by rw [if_pos rfl, if_pos rfl]; exact h1)
    unfold lastE
    simp only [List.find?_nil]
    rw [if_neg]
    have := nextT_len (keysW ([] : List Wr1))
    have e : (keysW ([] : List Wr1)).length = 0 := rfl
    omega
  · obtain ⟨q1, q2, q3, q4⟩ := commit_facts hq hs0 hs1 he
    refine hR _ w1 he (by rw [if_neg hne]; exact q1) q2 (home_commit hq hs0 hs1 he) ?_ (commit_armed d seq ws) (by rw [if_neg hne, if_neg hne]; exact h1)
    have := (lastE_zero he).2
    omega
  · obtain ⟨t1, t2, t3⟩ := home_torn hq hs0 hs1 he hne ht
    exact hF he hne ha seq' l' many w1 t1 t2 t3 (by omega) h1

theorem bs_len {l : List Bs} {c : Int} (h : Snd l c) (i : Nat) : (l.getD i []).length ≤ 256 := by
  by_cases hi : i < l.length
  · have e : l.getD i [] = l[i] := by simp [hi]
    rw [e, h.secs _ (List.getElem_mem hi)]; exact Nat.le_refl _
  · have e : l.getD i [] = [] := by simp [Nat.le_of_not_lt hi]
    rw [e]; simp

theorem Open_q {c : Int} (h : St w (DskS g d :: X)) (hoff : d.off = false) (hws : d.ws = []) (hsf : d.safe = d.l) (hS : Snd d.l c) (hc : c ≤ 1099511627776) (hm : 0 ≤ d.many ∧ d.many < 999999999000) {R : Option Addr → Int → World → Prop}
    (hR : ∀ u d' w', Quiet d' (hdOf d.l).seq → d'.l.length = d.l.length → homeL d'.l = homeL d.l → d'.many ≤ d.many + 300 → d'.armed = d.armed → St w' (WalS u g ⟨(hdOf d.l).seq, false, 0⟩ :: DskS g d' :: X) → R (some (blk u)) 0 w')
    (hF : d.armed = true → ∀ l' many w', Snd l' c → l'.length = d.l.length → homeL l' = homeL d.l → 0 ≤ many ∧ many ≤ d.many + 300 → St w' (DskS g (offD l' many) :: X) → R none 14 w') : F.wal_Open (some (blk g)) w R := by
  have hlo := hS.lo
  have hb := bs_len hS 0
  by_cases hf : (hdOf d.l).full = true
  · obtain ⟨t1, t2, t3⟩ := hS.ts hf
    obtain ⟨d1, d2, d3⟩ := done_all hS hc hf
    have hsq := hS.seq
    have er : recL d.l = setAll d.l (logL d.l (hdOf d.l).ts (hdOf d.l).ts.length) := by unfold recL; rw [hf, if_pos rfl]
    have ehd : readHead (d.l.getD 0 []) = (⟨(hdOf d.l).seq, true, (hdOf d.l).ts⟩, 0) := by
      have h1 := hS.ok
      have h2 : (readHead (d.l.getD 0 [])).1 = hdOf d.l := rfl
      rw [← hf]
      exact Prod.ext h2 h1
    obtain ⟨f1, f2, f3, f4, f5, f6⟩ := wrN_facts d (logL d.l (hdOf d.l).ts (hdOf d.l).ts.length)
    rw [logL_len] at f4
    refine OpenW_full h hoff hws hlo (by omega) ehd ⟨hsq.1, by omega⟩ (fun t ht => t3 t ht) t2 hS.secs hm (fun u w1 h1 => ?_) fun ha l' many w1 ht hm1 h1 => ?_
    · have el : (flushD (wr1 (flushD (wrN d (logL d.l (hdOf d.l).ts (hdOf d.l).ts.length))) (0, headB ⟨(hdOf d.l).seq, false, []⟩))).l = (recL d.l).set 0 (headB ⟨(hdOf d.l).seq, false, []⟩) := by
        show ((wrN d _).l.set 0 _) = _
        rw [f1, er]
      have em : (flushD (wr1 (flushD (wrN d (logL d.l (hdOf d.l).ts (hdOf d.l).ts.length))) (0, headB ⟨(hdOf d.l).seq, false, []⟩))).many = d.many + ((hdOf d.l).ts.length : Int) + 1 := by
        show (wrN d _).many + 1 = _
        rw [f4]
      refine hR u _ w1 ⟨by show (wrN d _).off = false; rw [f5]; exact hoff, rfl, rfl, by rw [el]; exact d1.lo, by rw [el]; exact d1.hi, ?_, ?_, by rw [em]; omega, by rw [el]; exact d1.secs⟩ (by rw [el, List.length_set, d3]) ?_ (by rw [em]; omega) (by show (wrN d _).armed = _; exact f6) h1
      · rw [el]
        exact Prod.ext d2 d1.ok
      · rw [el]
        have := d1.lo
        have e : ((recL d.l).set 0 (headB ⟨(hdOf d.l).seq, false, []⟩)).getD 0 [] = ((recL d.l).set 0 (headB ⟨(hdOf d.l).seq, false, []⟩))[0]'(by omega) := getD_at _ _
        rw [e]; exact d1.secs _ (List.getElem_mem _)
      · rw [el]
        exact homeL_ext (by rw [List.length_set, d3]) fun i hi => by rw [recL_done d2, set0_get (by omega)]
    · rw [hsf] at ht
      obtain ⟨k1, k2, k3⟩ := torn_open hS hc hf ht
      exact hF ha l' many w1 k1 k2 (homeL_ext k2 k3) (by omega) h1
  · have hf : (hdOf d.l).full = false := by simpa using hf
    have hn := hS.non hf
    refine OpenW_st h hoff hlo (by omega) (fun _ => hf) (fun w1 hne => absurd hS.ok hne) fun u w1 he h1 => hR u d w1 ⟨hoff, hsf, hws, hlo, hS.hi, ?_, ?_, hm.1, hS.secs⟩ rfl rfl (by omega) rfl h1
    · refine Prod.ext ?_ hS.ok
      show hdOf d.l = _
      generalize hdOf d.l = hd at *
      cases hd
      simp only at hf hn
      rw [hf, hn]
    · have e : d.l.getD 0 [] = d.l[0]'(by omega) := by simp [show 0 < d.l.length by omega]
      rw [e]; exact hS.secs _ (List.getElem_mem _)

/-- what can be opened -/
structure Opn (d : Ds) (c : Int) : Prop where
  snd : Snd d.l c
  ws : d.ws = []
  safe : d.safe = d.l
  m0 : 0 ≤ d.many
theorem Quiet.opn {d : Ds} {seq : Int} (h : Quiet d seq) (hs : 0 ≤ seq) : Opn d seq := ⟨(h.snd ⟨hs, Int.le_refl _⟩).1, h.ws, h.safe, h.many⟩
theorem Quiet.hd {d : Ds} {seq : Int} (h : Quiet d seq) : (hdOf d.l).seq = seq := by unfold hdOf; rw [h.head]
theorem again_st {c : Int} (h : St w (DskS g d :: X)) (ha : d.armed = false) (hO : Opn d c) (hc : c ≤ 1099511627776) (hm : d.many < 999999999000) {R : Option Addr → World → Prop}
    (hR : ∀ u d' w', Quiet d' (hdOf d.l).seq → d'.l.length = d.l.length → homeL d'.l = homeL d.l → d'.many ≤ d.many + 300 → d'.armed = false → St w' (WalS u g ⟨(hdOf d.l).seq, false, 0⟩ :: DskS g d' :: X) → R (some (blk u)) w') : F.masonrylaw9_again (some (blk g)) w R := by
  apply E.masonrylaw9_again
  unfold V.masonrylaw9_again
  try simp (config := { zeta := false }) only [cnd_all, Nat.reduceAdd]
  refine ⟨fun k w' => k = 0 ∧ St w' (DskS g d :: X), fun _ _ => 0, ⟨rfl, h⟩, ?_⟩
  rintro _ w1 ⟨rfl, h1⟩
  refine ⟨fun _ => Restore_st h1 fun w2 h2 => Open_q h2 rfl hO.ws hO.safe hO.snd hc ⟨hO.m0, hm⟩ (fun u d' w3 q1 q2 q3 q4 q5 h3 => ⟨fun _ => ⟨fun _ => hR u d' w3 q1 q2 q3 q4 (by rw [q5]; exact ha) h3, fun h => (by cases h)⟩, fun h => absurd rfl h⟩) fun hx => ?_, fun h => by omega⟩
  have : d.armed = true := hx
  rw [ha] at this; cases this

theorem Read_q {q : Int} (h : St w (WalS u g s :: DskS g d :: X)) (hs : s.down = false) (hq : Quiet d q) (h0 : 0 ≤ q) {at_ : Int} {R : ByteArray → Int → World → Prop}
    (hR0 : 0 ≤ at_ → at_ < ((homeL d.l).length : Int) → R (tx ((homeL d.l).getD at_.toNat [])) 0 w) (hR1 : ¬ (0 ≤ at_ ∧ at_ < ((homeL d.l).length : Int)) → ∀ t, R t 15 w) : F.wal_Wal_Read (some (blk u)) at_ w R := by
  refine ReadW_st h ?_
  have hlo := hq.lo
  have hhl := homeL_len d.l
  have hsz : sizeD d = (d.l.length : Int) - 111 := rfl
  by_cases hr : 0 ≤ at_ ∧ at_ < ((homeL d.l).length : Int)
  · have e : readE d s.down at_ = 0 := by unfold readE; rw [if_neg (by simp [hs]), if_neg (by omega), if_neg (by simp [hq.off])]
    rw [e, if_pos rfl]
    have := hR0 hr.1 hr.2
    rw [hq.home h0] at this
    exact this
  · have e : readE d s.down at_ = 15 := by unfold readE; rw [if_neg (by simp [hs]), if_pos (by omega)]
    rw [e]
    exact hR1 hr _

theorem is_st {q : Int} (h : St w (WalS u g s :: DskS g d :: X)) (hs : s.down = false) (hq : Quiet d q) (h0 : 0 ≤ q) {hl : Sl} {hs : List Bs} (hx : Has ET w hl hs) (hlen : hs.length = (homeL d.l).length) {R : Bool → World → Prop} (hR : R (decide (homeL d.l = hs)) w) : F.masonrylaw9_is (some (blk u)) hl w R := by
  apply E.masonrylaw9_is
  unfold V.masonrylaw9_is
  try simp (config := { zeta := false }) only [cnd_all, Nat.reduceAdd]
  have hll := hx.1
  have hhl := homeL_len d.l
  have hhi := hq.hi
  refine ⟨Cnt hs.length fun m w' => w' = w ∧ ∀ i, i < m → (homeL d.l).getD i [] = hs.getD i [], cntM hs.length, Cnt.zero ⟨rfl, fun i hi => by omega⟩, ?_⟩
  rintro _ w1 ⟨m, rfl, hm, rfl, hall⟩
  refine ⟨fun hlt => ?_, fun hge => ?_⟩
  · have hlt : m < hs.length := by omega
    refine Read_q h (by assumption) hq h0 (fun _ _ => ⟨fun h => absurd rfl h, fun _ => ?_⟩) fun hr => absurd ⟨by omega, by omega⟩ hr
    obtain ⟨a, ha, hal, hc⟩ := hx.at (j := m) hlt
    have hc0 := hc 0 _ rfl
    rw [addr_add0] at hc0
    have eg : hs.getD m [] = hs[m] := by simp [hlt]
    refine ⟨a, ha, by omega, by omega, _, hc0, fun hne => ?_, fun he => ?_⟩
    · have : homeL d.l ≠ hs := fun e => by rw [e, Int.toNat_natCast, eg, tx_eq] at hne; simp at hne
      rw [decide_eq_false this] at hR; exact hR
    · rw [Int.toNat_natCast] at he
      refine Cnt.next hlt (by omega) ⟨rfl, fun i hi => ?_⟩
      by_cases h : i = m
      · subst h; rw [eg]; rw [tx_eq] at he; simpa using he
      · exact hall i (by omega)
  · have hmm : m = hs.length := by omega
    subst hmm
    refine SizeW_st h ?_
    have e : homeL d.l = hs := list_ext hlen.symm fun i hi => hall i (by omega)
    rw [decide_eq_true e] at hR
    have hlo := hq.lo
    have hsz : sizeD d = (d.l.length : Int) - 111 := rfl
    have e2 : sizeD d = (hl.len : Int) := by omega
    rw [e2]
    simpa using hR

theorem fill_st (h : St w X) {t : Bs} (ht : t.length ≤ 1000000000) {R : ByteArray → World → Prop} (hR : ∀ w', St w' X → R (tx (fillS t)) w') : F.masonrylaw7_Fill (tx t) w R :=
  Fill_spec ht fun w' hB => hR w' (h.below hB)
def roundS (i : Nat) : Bs := fillS [UInt8.ofNat (97 + i)]
theorem roundS_len (i : Nat) : (roundS i).length = 256 := fillS_len _
theorem round_st (h : St w X) {i : Nat} (hi : i < 100) {R : ByteArray → World → Prop} (hR : ∀ w', St w' X → R (tx (roundS i)) w') : F.masonrylaw9_round (i : Int) w R := by
  apply E.masonrylaw9_round
  unfold V.masonrylaw9_round
  have e1 : w64 ((97 : Int) + (i : Int)) = ((97 + i : Nat) : Int) := by rw [w64_id (by omega) (by omega)]; omega
  have e2 : wr .u8 ((97 + i : Nat) : Int) = ((UInt8.ofNat (97 + i)).toNat : Int) := by
    rw [wr8, UInt8.toNat_ofNat']
    omega
  rw [e1, e2]
  intro w1
  have h1 : w1.heap[w.heap.size]? = some (.cells ⟨bv [UInt8.ofNat (97 + i)]⟩ T.y_uint8 (0, 0)) := heap_new w _
  have hB1 : Below w.heap.size w w1 := below_fr (Fr.alloc no w _)
  clear_value w1
  have hO := Own.of (size := 1) (n := 1) (cap := 1) h1 rfl (Nat.le_refl _) (by decide)
  exact runT_bytes_str und_bytes und_byte und_str (l := ⟨some (blk w.heap.size), 1, 1⟩) (bs := [UInt8.ofNat (97 + i)]) hO (Fill_spec (s := [UInt8.ofNat (97 + i)]) (by simp) fun w2 hB2 => hR w2 ((h.below hB1).below hB2))

/-- a row that is copied -/
theorem St.app0 {α : Type} {En : Enc α} {P : Program} {ts ty t : TypeId} {bytes : Nat} (hE : Elt P ts t En.n bytes) (h : St w X) {sl : Sl} {ys : List α} (hs : Has En w sl ys) (hnil : sl.a = none → sl = ⟨none, 0, 0⟩) (hb : ys.length * bytes ≤ 140737488355328) (hb2 : ys.length ≤ 4611686018427387904) {R : Sl → World → Prop}
    (hR : ∀ l' w', St w' (Row En t l' ys :: X) → l'.len = ys.length → R l' w') :
    RunT P (Builtin.append_ #[ts, ts] ty #[.slice none 0 0, .slice sl.a sl.len sl.cap]) [.one .slice] w R := by
  cases ha : sl.a with
  | some a => exact St.app hE (h.row0 En t) hs ha (by simpa using hb) (by simpa using hb2) fun l' w' h' hl' => hR l' w' h' (by simpa using hl')
  | none =>
    have hn : ys = [] := by
      cases ys with
      | nil => rfl
      | cons y r => obtain ⟨a, ha', _⟩ := hs.2 0 y rfl; rw [ha] at ha'; cases ha'
    subst hn
    obtain ⟨i, z, hi, hz, h1, h2, h3⟩ := hE.info
    have e := hnil ha
    subst e
    exact runT_slice (l := ⟨none, 0, 0⟩) (run_append_owned_none (P := P) w 0 ts ty t i En.n hE.und hi (.slice none 0 0) 0 [] (Own.nil _ _ _)) (hR ⟨none, 0, 0⟩ w (h.row0 En t) rfl)
end
end Go.Proofs.YtepclihkniaieaaGreatDoor
