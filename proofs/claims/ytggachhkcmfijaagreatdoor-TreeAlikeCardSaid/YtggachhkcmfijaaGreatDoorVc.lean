/- The engine: a condition on a function of the model's code, reckoned by the kernel, from which the call's contract follows. -/
import Derived.Below
import Derived.KernelRfl
import Derived.Laws.Concat
import Derived.Laws.Entries
import Derived.Laws.IdiomStrings
import Derived.Laws.Slices
import Derived.Laws.Strings
import Derived.Laws.StructEq
import Derived.Laws.Unary
import Derived.OrdersHeld
import Derived.Tactics
set_option linter.unusedVariables false
namespace Go.Vc
open Go
/-- the shape of one cell -/
inductive Sh where
 | int (k : IntKind) | bool | str | ptr | slice | map | any
 deriving DecidableEq
/-- a slice value -/
structure Sl where
 a : Option Addr
 len : Nat
 cap : Nat
abbrev Sh.T : Sh → Type
 | .int _ => Int
 | .bool => Bool
 | .str => ByteArray
 | .ptr => Option Addr
 | .slice => Sl
 | .map => Option Nat
 | .any => Value
/-- what is known of a slot: nothing; a truth value written out; an address; a value that is not looked into; a tuple; a value whose head is known -/
inductive SV where
 | no
 | lit (b : Bool)
 | adr (a : Addr)
 | opq (v : Value)
 | tup (l : List SV)
 | fnv (f : Nat) (first cap : Array Value)
 | val (v : Value)
mutual
def SV.v : SV → Value
 | .no => undef
 | .lit b => .bool b
 | .adr a => .pointer (some a)
 | .opq v => v
 | .tup l => .tuple ⟨SV.vs l⟩
 | .fnv f first cap => .func (.func f) first cap
 | .val v => v
def SV.vs : List SV → List Value
 | [] => []
 | x :: r => SV.v x :: SV.vs r
end
def SV.den : SV → Option Value
 | .no => none
 | x => some x.v
def Sh.mk : (s : Sh) → s.T → Value
 | .int k, (n : Int) => .int k n
 | .bool, (b : Bool) => .bool b
 | .str, (s : ByteArray) => .string s
 | .ptr, (p : Option Addr) => .pointer p
 | .slice, (s : Sl) => .slice s.a s.len s.cap
 | .map, (r : Option Nat) => .map r
 | .any, (v : Value) => v
def Sh.sv : (s : Sh) → s.T → SV
 | .int k, (n : Int) => .val (.int k n)
 | .bool, (b : Bool) => .val (.bool b)
 | .str, (s : ByteArray) => .val (.string s)
 | .ptr, (p : Option Addr) => .val (.pointer p)
 | .slice, (s : Sl) => .val (.slice s.a s.len s.cap)
 | .map, (r : Option Nat) => .val (.map r)
 | .any, (v : Value) => .opq v
theorem Sh.sv_den (s : Sh) (x : s.T) : (s.sv x).den = some (s.mk x) := by cases s <;> rfl
theorem Sh.sv_v (s : Sh) (x : s.T) : (s.sv x).v = s.mk x := by cases s <;> rfl
def unInt (k : IntKind) : SV → Option Int
 | .val (.int k' n) => if k = k' then some n else none
 | _ => none
def unBool : SV → Option Bool
 | .val (.bool b) => some b
 | .lit b => some b
 | _ => none
def unStr : SV → Option ByteArray
 | .val (.string s) => some s
 | _ => none
def unPtr : SV → Option (Option Addr)
 | .val (.pointer p) => some p
 | .adr a => some (some a)
 | _ => none
def unSlice : SV → Option Sl
 | .val (.slice a l c) => some ⟨a, l, c⟩
 | _ => none
def unMap : SV → Option (Option Nat)
 | .val (.map r) => some r
 | _ => none
def unAny : SV → Option Value
 | .opq v => some v
 | .val v => some v
 | _ => none
def Sh.un : (s : Sh) → SV → Option s.T
 | .int k, x => unInt k x
 | .bool, x => unBool x
 | .str, x => unStr x
 | .ptr, x => unPtr x
 | .slice, x => unSlice x
 | .map, x => unMap x
 | .any, x => unAny x
theorem Sh.un_v {s : Sh} {x : SV} {y : s.T} (h : s.un x = some y) : x.den = some (s.mk y) := by
 cases s <;> simp only [Sh.un] at h
 case int k => unfold unInt at h; split at h <;> simp_all [SV.den, SV.v, Sh.mk]
 case bool => unfold unBool at h; split at h <;> simp_all [SV.den, SV.v, Sh.mk]
 case str => unfold unStr at h; split at h <;> simp_all [SV.den, SV.v, Sh.mk]
 case ptr => unfold unPtr at h; split at h <;> simp_all [SV.den, SV.v, Sh.mk]
 case slice => unfold unSlice at h; split at h <;> simp_all [SV.den, SV.v, Sh.mk]; subst h; exact ⟨rfl, rfl, rfl⟩
 case map => unfold unMap at h; split at h <;> simp_all [SV.den, SV.v, Sh.mk]
 case any => unfold unAny at h; split at h <;> simp_all [SV.den, SV.v, Sh.mk]
/-- one value: a cell, or a struct or an array of cells -/
inductive Ly where
 | one (s : Sh)
 | agg (l : List Sh)
def Ly.flat : Ly → List Sh
 | .one s => [s]
 | .agg l => l
def flats : List Ly → List Sh
 | [] => []
 | l :: r => l.flat ++ flats r
abbrev Fn : List Sh → Type → Type
 | [], α => α
 | s :: r, α => s.T → Fn r α
/-- a function of a list of slots, as one of typed arguments -/
def cur {α : Type} : (l : List Sh) → (List SV → α) → Fn l α
 | [], k => k []
 | s :: r, k => fun x => cur r fun xs => k (s.sv x :: xs)
/-- for all typed arguments -/
def allF : (l : List Sh) → (List SV → Prop) → Prop
 | [], k => k []
 | s :: r, k => ∀ x : s.T, allF r fun xs => k (s.sv x :: xs)
/-- there are typed arguments -/
def exF {α : Type} : (l : List Sh) → Fn l α → (List SV → α → Prop) → Prop
 | [], f, k => k [] f
 | s :: r, f, k => ∃ x : s.T, exF r (f x) fun xs g => k (s.sv x :: xs) g
/-- a typed function at slots -/
def app {α : Type} : (l : List Sh) → Fn l α → List SV → Option α
 | [], f, [] => some f
 | s :: r, f, x :: xs =>
   match s.un x with
   | some y => app r (f y) xs
   | none => none
 | _, _, _ => none
def packs : List Ly → List SV → List SV
 | [], _ => []
 | .one _ :: r, x :: xs => x :: packs r xs
 | .one _ :: _, [] => []
 | .agg l :: r, xs => .val (.agg ⟨SV.vs (xs.take l.length)⟩) :: packs r (xs.drop l.length)
def cellSV : List Value → List SV
 | [] => []
 | v :: r => .val v :: cellSV r
def unpack1 : Ly → SV → Option (List SV)
 | .one _, x => some [x]
 | .agg l, .val (.agg cs) => match Nat.beq cs.toList.length l.length with | true => some (cellSV cs.toList) | false => none
 | _, _ => none
def unpacks : List Ly → List SV → Option (List SV)
 | [], [] => some []
 | ly :: r, x :: xs =>
   match unpack1 ly x, unpacks r xs with
   | some a, some b => some (a ++ b)
   | _, _ => none
 | _, _ => none
abbrev Env := Nat → SV
def Env.put (e : Env) (d : Nat) (v : SV) : Env := fun t =>
 match Nat.beq t d with
 | true => v
 | false => e t
def ev (e : Env) : Operand → SV
 | .tmp t => e t
 | .const (.bool b) => .lit b
 | .const v => .val v
 | .global g => .adr ⟨g, 0, none⟩
 | .func f => .val (.func (.func f) #[] #[])
structure Fits (n : Nat) (e : Env) (a : Act) : Prop where
 defers : a.defers = []
 size : a.tmps.size = n
 tmp : ∀ t v, (e t).den = some v → t < n ∧ a.tmps.getD t undef = v
theorem Fits.ev {n : Nat} {e : Env} {a : Act} (h : Fits n e a) {x : Operand} {v : Value} (hx : (ev e x).den = some v) : a.eval x = v := by
 cases x with
 | tmp t => exact (h.tmp t v hx).2
 | const c => cases c <;> simp_all [Vc.ev, SV.den, SV.v, Act.eval]
 | global g => simpa [Vc.ev, SV.den, SV.v, Act.eval] using hx
 | func f => simpa [Vc.ev, SV.den, SV.v, Act.eval] using hx
theorem Fits.ev_v {n : Nat} {e : Env} {a : Act} (h : Fits n e a) {x : Operand} {s : SV} (hx : Vc.ev e x = s) (hs : s ≠ .no) : a.eval x = s.v := by
 apply h.ev
 rw [hx]
 cases s <;> simp_all [SV.den]
theorem Fits.put {n : Nat} {e : Env} {a : Act} (h : Fits n e a) {d : Nat} {s : SV} {v : Value} (hd : d < n) (hs : s.den = some v) : Fits n (e.put d s) (a.put (some d) v) := by
 refine ⟨h.defers, by simp [Act.put, h.size], fun t u hu => ?_⟩
 unfold Env.put at hu
 cases hb : Nat.beq t d with
 | true =>
   have : t = d := Nat.eq_of_beq_eq_true hb
   subst this
   simp only [hb] at hu
   rw [hs] at hu
   injection hu with hu
   subst hu
   exact ⟨hd, by simp [Act.put, h.size, hd]⟩
 | false =>
   simp only [hb] at hu
   have hne : d ≠ t := fun he => by subst he; simp at hb
   have := h.tmp t u hu
   refine ⟨this.1, ?_⟩
   simp only [Act.put, Array.getD_eq_getD_getElem?, Array.getElem?_setIfInBounds_ne hne]
   simpa [Array.getD_eq_getD_getElem?] using this.2
/-- a slot whose truth value has been decided -/
theorem Fits.lit {n : Nat} {e : Env} {a : Act} (h : Fits n e a) {t : Nat} {g : Bool} (ht : e t = .val (.bool g)) : Fits n (e.put t (.lit g)) a := by
 refine ⟨h.defers, h.size, fun t' u hu => ?_⟩
 unfold Env.put at hu
 cases hb : Nat.beq t' t with
 | true =>
   have : t' = t := Nat.eq_of_beq_eq_true hb
   subst this
   simp only [hb] at hu
   exact h.tmp _ u (by rw [ht]; exact hu)
 | false => simp only [hb] at hu; exact h.tmp t' u hu
end Go.Vc
namespace Go.Vc
open Go
def sEq (x y : ByteArray) : Bool := decide (x.data.toList = y.data.toList)
def sLt (x y : ByteArray) : Bool := Op.bytesLess x.data.toList y.data.toList
def sAt (s : ByteArray) (i : Int) : Int := ((s.data.toList.getD i.toNat 0).toNat : Int)
def shl (k : IntKind) (a b : Int) : Int := k.wrap (a * 2 ^ (min b.toNat k.bits))
def shr (k : IntKind) (a b : Int) : Int := a.fdiv (2 ^ (min b.toNat k.bits))
def slA (a : Option Addr) (cap l size : Nat) : Option Addr := if cap = l then a else a.map (·.add (l * size))
def SV.up : SV → SV
 | .lit b => .val (.bool b)
 | .adr a => .val (.pointer (some a))
 | x => x
/-- '==' against nil -/
def nilTest : Option TypeDesc → Operand → SV → (SV → Prop) → Prop
 | some (.pointer _), .const (.pointer none), .adr _, k => k (.lit false)
 | some (.pointer _), .const (.pointer none), .val (.pointer p), k => k (.val (.bool p.isNone))
 | some (.slice _), .const (.slice none _ _), .val (.slice a _ _), k => k (.val (.bool a.isNone))
 | some (.map ..), .const (.map none), .val (.map r), k => k (.val (.bool r.isNone))
 | _, _, _, _ => False
def notSV : SV → (SV → Prop) → Prop
 | .lit b, k => k (.lit (!b))
 | .val (.bool b), k => k (.val (.bool (!b)))
 | _, _ => False
def intBin (op : BinOp) (kx : IntKind) (a b : Int) (k : SV → Prop) : Prop :=
 match op with
 | .add => k (.val (.int kx (kx.wrap (a + b))))
 | .sub => k (.val (.int kx (kx.wrap (a - b))))
 | .mul => k (.val (.int kx (kx.wrap (a * b))))
 | .quo => b ≠ 0 ∧ k (.val (.int kx (kx.wrap (a.tdiv b))))
 | .rem => b ≠ 0 ∧ k (.val (.int kx (a.tmod b)))
 | .and => k (.val (.int kx (bits .and kx a b)))
 | .or => k (.val (.int kx (bits .or kx a b)))
 | .xor => k (.val (.int kx (bits .xor kx a b)))
 | .andNot => k (.val (.int kx (bits .andNot kx a b)))
 | .eql => k (.val (.bool (a == b)))
 | .neq => k (.val (.bool (a != b)))
 | .lss => k (.val (.bool (decide (a < b))))
 | .leq => k (.val (.bool (decide (a ≤ b))))
 | .gtr => k (.val (.bool (decide (a > b))))
 | .geq => k (.val (.bool (decide (a ≥ b))))
 | _ => False
def strBin (op : BinOp) (a b : ByteArray) (k : SV → Prop) : Prop :=
 match op with
 | .add => a.size + b.size ≤ 9223372036854775807 ∧ k (.val (.string (a ++ b)))
 | .eql => k (.val (.bool (sEq a b)))
 | .neq => k (.val (.bool (!sEq a b)))
 | .lss => k (.val (.bool (sLt a b)))
 | .leq => k (.val (.bool (sLt a b || sEq a b)))
 | .gtr => k (.val (.bool (!(sLt a b || sEq a b))))
 | .geq => k (.val (.bool (!sLt a b)))
 | _ => False
/-- the cells of two structs, one by one -/
def eqCells : List Sh → List Value → List Value → Option Bool
 | [], _, _ => some true
 | .int k :: r, .int k1 a :: xs, .int k2 b :: ys =>
   if k1 = k ∧ k2 = k then (match eqCells r xs ys with | some g => some ((a == b) && g) | none => none) else none
 | .str :: r, .string a :: xs, .string b :: ys => match eqCells r xs ys with | some g => some (sEq a b && g) | none => none
 | .bool :: r, .bool a :: xs, .bool b :: ys => match eqCells r xs ys with | some g => some ((a == b) && g) | none => none
 | _, _, _ => none
/-- what the engine is told of a program: which functions may be entered; which struct types may be compared, and their cells -/
structure Cfg where
 P : Program
 okf : Nat → Bool
 eqs : TypeId → Option (List Sh)
def vcBin (C : Cfg) (op : BinOp) (t : TypeId) (x y : SV) (k : SV → Prop) : Prop :=
 match x, y with
 | .val (.int kx a), .val (.int ky b) =>
   match op with
   | .shl => 0 ≤ b ∧ k (.val (.int kx (shl kx a b)))
   | .shr => 0 ≤ b ∧ k (.val (.int kx (shr kx a b)))
   | op => if kx = ky then intBin op kx a b k else False
 | .val (.string a), .val (.string b) => strBin op a b k
 | .val (.bool a), .val (.bool b) =>
   match C.P.underlying t, op with
   | some .bool, .eql => k (.val (.bool (a == b)))
   | some .bool, .neq => k (.val (.bool (!(a == b))))
   | _, _ => False
 | .val (.agg xs), .val (.agg ys) =>
   match C.eqs t with
   | some sh =>
     match eqCells sh xs.toList ys.toList, op with
     | some g, .eql => k (.val (.bool g))
     | some g, .neq => k (.val (.bool (!g)))
     | _, _ => False
   | none => False
 | _, _ => False
def isNilConst : Operand → Bool
 | .const (.pointer none) => true
 | .const (.slice none _ _) => true
 | .const (.map none) => true
 | _ => false
def vcBinOp (C : Cfg) (e : Env) (op : BinOp) (t : TypeId) (x y : Operand) (k : SV → Prop) : Prop :=
 match isNilConst y with
 | true =>
   match op with
   | .eql => nilTest (C.P.underlying t) y (ev e x) k
   | .neq => nilTest (C.P.underlying t) y (ev e x) fun s => notSV s k
   | _ => False
 | false => vcBin C op t (ev e x).up (ev e y).up k
def vcUn (op : UnOp) (x : SV) (k : SV → Prop) : Prop :=
 match op, x with
 | .not, x => notSV x k
 | .neg, .val (.int kd n) => k (.val (.int kd (kd.wrap (0 - n))))
 | .xor, .val (.int kd n) => k (.val (.int kd (bits .xor kd (if kd.signed then -1 else kd.max) n)))
 | _, _ => False
structure CfgOk (C : Cfg) : Prop where
 okf : ∀ f, C.okf f = true → ∃ fn, C.P.funcs[f]? = some fn ∧ fn.body.isNone = false ∧ (fn.name == "runtime.NumGoroutine") = false
 mixed : C.P.follows .mixedOrders = true
 eqs : ∀ t sh, C.eqs t = some sh → C.P.eqGuardType C.P.depth t = false ∧
   ∀ (xs ys : Array Value) (g : Bool), eqCells sh xs.toList ys.toList = some g → ∀ w, (Op.equalIn 10000 t (.agg xs) (.agg ys)).run C.P w = .ok g w
theorem SV.up_v (x : SV) : x.up.v = x.v := by cases x <;> rfl
theorem SV.up_no {x : SV} (h : x.up ≠ .no) : x ≠ .no := by cases x <;> simp_all [SV.up]
theorem sEq_toList (a b : ByteArray) : (a.toList == b.toList) = sEq a b := by
 rw [ByteArray.toList_eq, ByteArray.toList_eq]
 unfold sEq
 by_cases h : a.data.toList = b.data.toList
 · simp [h]
 · have h2 : ¬ a.data = b.data := fun e => h (by rw [e])
   simp [h, h2]
theorem sLt_toList (a b : ByteArray) : Op.bytesLess a.toList b.toList = sLt a b := by
 rw [ByteArray.toList_eq, ByteArray.toList_eq]; rfl
/-- the run of an operation that only reckons -/
def PureRun (P : Program) (s : Sem Value) (k : SV → Prop) : Prop := ∃ sv v, k sv ∧ sv.den = some v ∧ ∀ w, s.run P w = .ok v w
theorem PureRun.intro {P : Program} {s : Sem Value} {k : SV → Prop} (sv : SV) (hk : k sv) (hn : sv ≠ .no) (h : ∀ w, s.run P w = .ok sv.v w) : PureRun P s k :=
 ⟨sv, sv.v, hk, by cases sv <;> simp_all [SV.den], h⟩
theorem intBin_sound {P : Program} {op : BinOp} {t : TypeId} {kx : IntKind} {a b : Int} {k : SV → Prop} {x y : Operand} (h : intBin op kx a b k) :
   PureRun P (do eqGuard op t x y (.int kx a) (.int kx b); binOp op t (.int kx a) (.int kx b)) k := by
 cases op <;> simp only [intBin] at h
 case quo => exact .intro _ h.2 (by simp) fun w => by simp [go_sem, h.1, SV.v]
 case rem => exact .intro _ h.2 (by simp) fun w => by simp [go_sem, h.1, SV.v]
 all_goals exact .intro _ h (by simp) fun w => by simp [go_sem, SV.v]
theorem strBin_sound {P : Program} {op : BinOp} {t : TypeId} {a b : ByteArray} {k : SV → Prop} {x y : Operand} (h : strBin op a b k) :
   PureRun P (do eqGuard op t x y (.string a) (.string b); binOp op t (.string a) (.string b)) k := by
 cases op <;> simp only [strBin] at h
 case add => exact .intro _ h.2 (by simp) fun w => by simp [go_sem, SV.v, binOp, run_string_add_sum w a b h.1]
 all_goals exact .intro _ h (by simp) fun w => by simp [eqGuard_at_string, SV.v, binOp, Op.stringOp, sEq_toList, sLt_toList]
theorem shl_sound {P : Program} {t : TypeId} {kx ky : IntKind} {a b : Int} {x y : Operand} (h : 0 ≤ b) (w : World) :
   (do eqGuard .shl t x y (.int kx a) (.int ky b); binOp .shl t (.int kx a) (.int ky b)).run P w = .ok (.int kx (shl kx a b)) w := by
 simp only [eqGuard_at_int, binOp_shl, Op.shift, shl]
 rw [if_neg (by omega)]
 simp
theorem shr_sound {P : Program} {t : TypeId} {kx ky : IntKind} {a b : Int} {x y : Operand} (h : 0 ≤ b) (w : World) :
   (do eqGuard .shr t x y (.int kx a) (.int ky b); binOp .shr t (.int kx a) (.int ky b)).run P w = .ok (.int kx (shr kx a b)) w := by
 simp only [eqGuard_at_int, binOp_shr, Op.shift, shr]
 rw [if_neg (by omega)]
 simp
theorem run_equal_bool {P : Program} {t : TypeId} (ht : P.underlying t = some .bool) (a b : Bool) (w : World) : (Op.equal t (.bool a) (.bool b)).run P w = .ok (a == b) w := run_equalIn_bool' w 9999 t a b ht
theorem run_equal_pnil {P : Program} {t e : TypeId} (ht : P.underlying t = some (.pointer e)) (p : Option Addr) (w : World) : (Op.equal t (.pointer p) (.pointer none)).run P w = .ok p.isNone w := by
 have h : ∀ d, (Op.equalIn (d + 1) t (.pointer p) (.pointer none)).run P w = .ok p.isNone w := fun d => by
   cases p <;> simp [Op.equalIn, run_underlying ht]
 exact h 9999
theorem run_equal_snil {P : Program} {t e : TypeId} (ht : P.underlying t = some (.slice e)) (p : Option Addr) (l c l' c' : Nat) (w : World) : (Op.equal t (.slice p l c) (.slice none l' c')).run P w = .ok p.isNone w := by
 have h : ∀ d, (Op.equalIn (d + 1) t (.slice p l c) (.slice none l' c')).run P w = .ok p.isNone w := fun d => by
   cases p <;> simp [Op.equalIn, run_underlying ht]
 exact h 9999
theorem run_equal_mnil {P : Program} {t k e : TypeId} (ht : P.underlying t = some (.map k e)) (p : Option Nat) (w : World) : (Op.equal t (.map p) (.map none)).run P w = .ok p.isNone w := by
 have h : ∀ d, (Op.equalIn (d + 1) t (.map p) (.map none)).run P w = .ok p.isNone w := fun d => by
   cases p <;> simp [Op.equalIn, run_underlying ht]
 exact h 9999
theorem vcBin_sound {C : Cfg} (hC : CfgOk C) {op : BinOp} {t : TypeId} {sx sy : SV} {k : SV → Prop} {x y : Operand} (h : vcBin C op t sx sy k) :
   PureRun C.P (do eqGuard op t x y sx.v sy.v; binOp op t sx.v sy.v) k := by
 unfold vcBin at h
 split at h
 · rename_i kx a ky b
   split at h
   · exact .intro _ h.2 (by simp) fun w => shl_sound h.1 w
   · exact .intro _ h.2 (by simp) fun w => shr_sound h.1 w
   · split at h
     · rename_i hk
       subst hk
       exact intBin_sound h
     · exact h.elim
 · exact strBin_sound h
 · rename_i a b
   split at h
   · rename_i ht
     exact .intro _ h (by simp) fun w => by
       simp [SV.v, eqGuard_at_bool, binOp, run_equal_bool ht]
   · rename_i ht
     exact .intro _ h (by simp) fun w => by
       simp [SV.v, eqGuard_at_bool, binOp, run_equal_bool ht]
   · exact h.elim
 · rename_i xs ys
   split at h
   · rename_i sh hsh
     obtain ⟨h1, h2⟩ := hC.eqs t sh hsh
     split at h
     · rename_i g hg
       exact .intro _ h (by simp) fun w => by
         simp [SV.v, run_eqGuard_agg w _ t x y xs ys h1, run_eql_struct, h2 xs ys g hg]
     · rename_i g hg
       exact .intro _ h (by simp) fun w => by
         simp [SV.v, run_eqGuard_agg w _ t x y xs ys h1, run_neq_struct, h2 xs ys g hg]
     · exact h.elim
   · exact h.elim
 · exact h.elim
theorem nilTest_sound {P : Program} {t : TypeId} {s : SV} {k : SV → Prop} {c : Operand} (h : nilTest (P.underlying t) c s k) :
   ∃ sv g u, k sv ∧ sv.den = some (.bool g) ∧ c = .const u ∧ (∀ op x y, eqGuard op t x y s.v u = pure ()) ∧ (∀ w, (binOp .eql t s.v u).run P w = .ok (.bool g) w) ∧ ∀ w, (binOp .neq t s.v u).run P w = .ok (.bool (!g)) w := by
 unfold nilTest at h
 split at h
 · rename_i ht; exact ⟨_, false, _, h, rfl, rfl, fun op x y => eqGuard_at_pointer op t x y _ _, fun w => by simp [binOp, SV.v, run_equal_pnil ht], fun w => by simp [binOp, SV.v, run_equal_pnil ht]⟩
 · rename_i ht; exact ⟨_, _, _, h, rfl, rfl, fun op x y => eqGuard_at_pointer op t x y _ _, fun w => by simp [binOp, SV.v, run_equal_pnil ht], fun w => by simp [binOp, SV.v, run_equal_pnil ht]⟩
 · rename_i ht; exact ⟨_, _, _, h, rfl, rfl, fun op x y => eqGuard_at_slice op t x y _ _ _ _, fun w => by simp [binOp, SV.v, run_equal_snil ht], fun w => by simp [binOp, SV.v, run_equal_snil ht]⟩
 · rename_i ht; exact ⟨_, _, _, h, rfl, rfl, fun op x y => eqGuard_at_map op t x y _ _, fun w => by simp [binOp, SV.v, run_equal_mnil ht], fun w => by simp [binOp, SV.v, run_equal_mnil ht]⟩
 · exact h.elim
theorem notSV_sound {s : SV} {k : SV → Prop} {g : Bool} (hs : s.den = some (.bool g)) (h : notSV s k) : ∃ sv, k sv ∧ sv.den = some (.bool (!g)) := by
 unfold notSV at h
 split at h
 · simp only [SV.den, SV.v, Option.some.injEq, Value.bool.injEq] at hs; subst hs; exact ⟨_, h, rfl⟩
 · simp only [SV.den, SV.v, Option.some.injEq, Value.bool.injEq] at hs; subst hs; exact ⟨_, h, rfl⟩
 · exact h.elim
theorem notSV_bool {s : SV} {k : SV → Prop} (h : notSV s k) : ∃ g, s.den = some (.bool g) := by
 unfold notSV at h
 split at h
 · exact ⟨_, rfl⟩
 · exact ⟨_, rfl⟩
 · exact h.elim
theorem vcBin_no {C : Cfg} {op : BinOp} {t : TypeId} {sx sy : SV} {k : SV → Prop} (h : vcBin C op t sx sy k) : sx ≠ .no ∧ sy ≠ .no := by
 unfold vcBin at h
 split at h <;> first | exact h.elim | exact ⟨by simp, by simp⟩
theorem vcBinOp_sound {C : Cfg} (hC : CfgOk C) {n : Nat} {e : Env} {a : Act} (hf : Fits n e a) {op : BinOp} {t : TypeId} {x y : Operand} {k : SV → Prop} (h : vcBinOp C e op t x y k) :
   PureRun C.P (do eqGuard op t x y (a.eval x) (a.eval y); binOp op t (a.eval x) (a.eval y)) k := by
 unfold vcBinOp at h
 split at h
 · split at h
   · obtain ⟨sv, g, u, hk, hd, hc, hg, hq, _⟩ := nilTest_sound h
     have hx : a.eval x = (ev e x).v := hf.ev_v rfl (fun hn => by rw [hn] at h; unfold nilTest at h; split at h <;> simp_all)
     subst hc
     refine ⟨sv, _, hk, hd, fun w => ?_⟩
     have hy : a.eval (.const u) = u := rfl
     rw [hx, hy, hg, pure_bind]
     exact hq w
   · obtain ⟨sv, g, u, hk, hd, hc, hg, _, hq⟩ := nilTest_sound h
     have hx : a.eval x = (ev e x).v := hf.ev_v rfl (fun hn => by rw [hn] at h; unfold nilTest at h; split at h <;> simp_all)
     subst hc
     obtain ⟨sv', hk', hd'⟩ := notSV_sound hd hk
     refine ⟨sv', _, hk', hd', fun w => ?_⟩
     have hy : a.eval (.const u) = u := rfl
     rw [hx, hy, hg, pure_bind]
     exact hq w
   · exact h.elim
 · have hn := vcBin_no h
   have hx : a.eval x = (ev e x).v := hf.ev_v rfl (SV.up_no hn.1)
   have hy : a.eval y = (ev e y).v := hf.ev_v rfl (SV.up_no hn.2)
   have := vcBin_sound hC (x := x) (y := y) h
   rw [SV.up_v, SV.up_v] at this
   rw [hx, hy]
   exact this
theorem vcUn_sound {P : Program} {op : UnOp} {s : SV} {k : SV → Prop} (h : vcUn op s k) : PureRun P (Op.unary op s.v) k := by
 unfold vcUn at h
 split at h
 · obtain ⟨g, hg⟩ := notSV_bool h
   obtain ⟨sv, hk, hd⟩ := notSV_sound hg h
   have : s.v = .bool g := by cases s <;> simp_all [SV.den]
   exact ⟨sv, _, hk, hd, fun w => by rw [this]; rfl⟩
 · exact .intro _ h (by simp) fun w => by simp [SV.v, go_sem]
 · exact .intro _ h (by simp) fun w => by simp [SV.v, go_sem]
 · exact h.elim
theorem vcUn_no {op : UnOp} {s : SV} {k : SV → Prop} (h : vcUn op s k) : s ≠ .no := by
 rintro rfl
 unfold vcUn at h
 split at h <;> simp_all [notSV]
end Go.Vc
namespace Go.Vc
open Go
def shOf : TypeDesc → Option Sh
 | .int k => some (.int k)
 | .bool => some .bool
 | .string => some .str
 | .pointer _ => some .ptr
 | .slice _ => some .slice
 | .map .. => some .map
 | .func .. => some .any
 | .interface .. => some .any
 | _ => none
/-- is the type a struct or an array? -/
def aggType : Option TypeDesc → Bool
 | some (.struct _) => true
 | some (.array ..) => true
 | _ => false
def repSh : Nat → List Sh → List Sh
 | 0, _ => []
 | n + 1, l => l ++ repSh n l
mutual
/-- the cells of a type -/
def shsOf (P : Program) : Nat → TypeId → Option (List Sh)
 | 0, _ => none
 | d + 1, t =>
   match P.underlying t with
   | some (.struct fs) => shsFields P d fs.toList
   | some (.array n e) =>
     match shsOf P d e with
     | some l => some (repSh n l)
     | none => none
   | some x =>
     match shOf x with
     | some s => some [s]
     | none => none
   | none => none
def shsFields (P : Program) : Nat → List Field → Option (List Sh)
 | _, [] => some []
 | 0, _ :: _ => none
 | d + 1, f :: r =>
   match shsOf P d f.type, shsFields P d r with
   | some l, some l' => some (l ++ l')
   | _, _ => none
end
def lyOf (P : Program) (t : TypeId) : Option Ly :=
 match P.underlying t with
 | some (.struct fs) => match shsFields P 60 fs.toList with | some l => some (.agg l) | none => none
 | some (.array n e) => match shsOf P 60 e with | some l => some (.agg (repSh n l)) | none => none
 | some x => match shOf x with | some s => some (.one s) | none => none
 | none => none
def sizeT (P : Program) (t : TypeId) : Option Nat :=
 match P.info? t with
 | some i => some i.size
 | none => none
def fieldOf (P : Program) (s : TypeId) (f : Nat) : Option Field :=
 match P.underlying s with
 | some (.struct fs) => fs[f]?
 | _ => none
def zeroT (P : Program) (t : TypeId) : Option Value :=
 match P.info? t with
 | some i => i.zero
 | none => none
theorem run_sizeT {P : Program} {t : TypeId} {n : Nat} (h : sizeT P t = some n) (w : World) : (sizeOf t).run P w = .ok n w := by
 unfold sizeT at h
 split at h
 · rename_i i hi; injection h with h; simp [sizeOf, typeInfo, hi, h]
 · cases h
theorem run_zeroT {P : Program} {t : TypeId} {v : Value} (h : zeroT P t = some v) (w : World) : (zeroValue t).run P w = .ok v w := by
 unfold zeroT at h
 split at h
 · rename_i i hi; simp [zeroValue, typeInfo, hi, h]
 · cases h
/-! ### Operations that only reckon -/
def vcFieldAddr (P : Program) (s : TypeId) (x : SV) (f : Nat) (k : SV → Prop) : Prop :=
 match x, fieldOf P s f with
 | .adr a, some fd =>
   match sizeT P fd.type with
   | some (_ + 1) => k (.adr (a.add fd.offset))
   | _ => False
 | _, _ => False
def vcIndexAddr (P : Program) (t : TypeId) (x i : SV) (k : SV → Prop) : Prop :=
 match P.underlying t, x, i with
 | some (.slice e), .val (.slice base len _), .val (.int _ i) =>
   match sizeT P e with
   | some sz => ∃ ad, base = some ad ∧ 0 ≤ i ∧ i < (len : Int) ∧ k (.adr (ad.add (i.toNat * sz)))
   | none => False
 | some (.array n e), .adr a, .val (.int _ i) =>
   match sizeT P e with
   | some sz => 0 ≤ i ∧ i < (n : Int) ∧ k (.adr (a.add (i.toNat * sz)))
   | none => False
 | _, _, _ => False
def vcIndex (P : Program) (t : TypeId) (x i : SV) (k : SV → Prop) : Prop :=
 match P.underlying t, x, i with
 | some .string, .val (.string s), .val (.int _ i) => 0 ≤ i ∧ i < (s.size : Int) ∧ k (.val (.int .u8 (sAt s i)))
 | some (.array n e), .val (.agg cs), .val (.int _ i) =>
   match P.underlying e, sizeT P e with
   | some d, some 1 =>
     match shOf d with
     | some s => 0 ≤ i ∧ i < (n : Int) ∧ ∃ x : s.T, cs.toList[i.toNat]? = some (s.mk x) ∧ k (s.sv x)
     | none => False
   | _, _ => False
 | _, _, _ => False
/-- a bound of a slice expression that is left out, or a number -/
inductive Bd where
 | none
 | at (i : Int)
 | bad
def bd (e : Env) : Option Operand → Bd
 | .none => .none
 | some x => match ev e x with | .val (.int _ i) => .at i | _ => .bad
def vcSlice (P : Program) (t : TypeId) (x : SV) (lo hi mx : Bd) (k : SV → Prop) : Prop :=
 match P.underlying t, x with
 | some .string, .val (.string s) =>
   match lo, hi, mx with
   | .none, .none, .none => k (.val (.string (s.extract 0 s.size)))
   | .at l, .none, .none => 0 ≤ l ∧ l ≤ (s.size : Int) ∧ k (.val (.string (s.extract l.toNat s.size)))
   | .none, .at h, .none => 0 ≤ h ∧ h ≤ (s.size : Int) ∧ k (.val (.string (s.extract 0 h.toNat)))
   | .at l, .at h, .none => 0 ≤ l ∧ l ≤ h ∧ h ≤ (s.size : Int) ∧ k (.val (.string (s.extract l.toNat h.toNat)))
   | _, _, _ => False
 | some (.slice e), .val (.slice a len cap) =>
   match sizeT P e with
   | some sz =>
     match lo, hi, mx with
     | .none, .none, .none => k (.val (.slice (slA a cap 0 sz) len cap))
     | .at l, .none, .none => 0 ≤ l ∧ l ≤ (len : Int) ∧ k (.val (.slice (slA a cap l.toNat sz) (len - l.toNat) (cap - l.toNat)))
     | .none, .at h, .none => 0 ≤ h ∧ h ≤ (cap : Int) ∧ k (.val (.slice (slA a cap 0 sz) h.toNat cap))
     | .at l, .at h, .none => 0 ≤ l ∧ l ≤ h ∧ h ≤ (cap : Int) ∧ k (.val (.slice (slA a cap l.toNat sz) (h.toNat - l.toNat) (cap - l.toNat)))
     | .none, .at h, .at m => 0 ≤ h ∧ h ≤ m ∧ m ≤ (cap : Int) ∧ k (.val (.slice (slA a m.toNat 0 sz) h.toNat m.toNat))
     | .at l, .at h, .at m => 0 ≤ l ∧ l ≤ h ∧ h ≤ m ∧ m ≤ (cap : Int) ∧ k (.val (.slice (slA a m.toNat l.toNat sz) (h.toNat - l.toNat) (m.toNat - l.toNat)))
     | _, _, _ => False
   | none => False
 | some (.array n e), .adr a =>
   match sizeT P e with
   | some sz =>
     match lo, hi, mx with
     | .none, .none, .none => k (.val (.slice (some (if n = 0 then a else a.add (0 * sz))) n n))
     | .none, .at h, .none => 0 ≤ h ∧ h ≤ (n : Int) ∧ k (.val (.slice (some (if n = 0 then a else a.add (0 * sz))) h.toNat n))
     | _, _, _ => False
   | none => False
 | _, _ => False
def vcField (P : Program) (t : TypeId) (x : SV) (f : Nat) (k : SV → Prop) : Prop :=
 match fieldOf P t f, x with
 | some fd, .val (.agg cs) =>
   match P.underlying fd.type, sizeT P fd.type with
   | some d, some n =>
     match aggType (some d) with
     | true => k (.val (.agg ⟨(cs.toList.drop fd.offset).take n⟩))
     | false =>
       match cs.toList[fd.offset]? with
       | some v => k (.val v)
       | none => False
   | _, _ => False
 | _, _ => False
/-- cells laid over cells from a place on -/
def over (cells : List Value) (off : Nat) (new : List Value) : List Value := cells.take off ++ new ++ cells.drop (off + new.length)
/-- parts laid into cells, by their places -/
def lay (place : Nat → Option (Nat × Nat)) (cells : List Value) : List (Nat × SV) → Option (List Value)
 | [] => some cells
 | (i, x) :: r =>
   match place i, x.den with
   | some (off, size), some v =>
     if v.cells.toList.length = size ∧ off + size ≤ cells.length then lay place (over cells off v.cells.toList) r else none
   | _, _ => none
def placeOf (P : Program) (fs : List Field) (i : Nat) : Option (Nat × Nat) :=
 match fs[i]? with
 | some f => match sizeT P f.type with | some n => some (f.offset, n) | none => none
 | none => none
def allSized (P : Program) : List Field → Bool
 | [] => true
 | f :: r => match sizeT P f.type with | some _ => allSized P r | none => false
def vcBuild (P : Program) (t : TypeId) (parts : List (Nat × SV)) (k : SV → Prop) : Prop :=
 match zeroT P t, P.underlying t with
 | some z, some (.struct fs) =>
   match allSized P fs.toList, lay (placeOf P fs.toList) z.cells.toList parts with
   | true, some l => k (.val (.agg ⟨l⟩))
   | _, _ => False
 | some z, some (.array _ el) =>
   match sizeT P el with
   | some sz => match lay (fun i => some (i * sz, sz)) z.cells.toList parts with
     | some l => k (.val (.agg ⟨l⟩))
     | none => False
   | none => False
 | _, _ => False
def vcExtract (x : SV) (i : Nat) (k : SV → Prop) : Prop :=
 match x with
 | .tup l => match l[i]? with
   | some .no => False
   | some s => k s
   | none => False
 | .val (.tuple vs) => match vs.toList[i]? with
   | some v => k (.val v)
   | none => False
 | _ => False
def vcNil (x : SV) (k : SV → Prop) : Prop :=
 match x with
 | .adr a => k (.adr a)
 | .fnv f first cap => k (.fnv f first cap)
 | .val (.pointer p) => ∃ ad, p = some ad ∧ k (.adr ad)
 | .val (.func (.func f) first cap) => k (.val (.func (.func f) first cap))
 | .opq v => ∃ f first cap, v = .func (.func f) first cap ∧ k (.fnv f first cap)
 | _ => False
def vcConv (P : Program) (src dst : TypeId) (x : SV) (k : SV → Prop) : Prop :=
 match P.underlying src, P.underlying dst, x with
 | some _, some (.int kd), .val (.int _ n) => k (.val (.int kd (kd.wrap n)))
 | some .string, some .string, .val (.string s) => k (.val (.string s))
 | _, _, _ => False
def vcLen (P : Program) (t : TypeId) (x : SV) (k : SV → Prop) : Prop :=
 match P.underlying t, x with
 | some .string, .val (.string s) => k (.val (.int .i64 (s.size : Int)))
 | some (.slice _), .val (.slice _ n _) => k (.val (.int .i64 (n : Int)))
 | some (.array n _), _ => k (.val (.int .i64 (n : Int)))
 | _, _ => False
def vcCap (P : Program) (t : TypeId) (x : SV) (k : SV → Prop) : Prop :=
 match P.underlying t, x with
 | some (.slice _), .val (.slice _ _ c) => k (.val (.int .i64 (c : Int)))
 | _, _ => False
def imin (x y : Int) : Int := if y < x then y else x
def imax (x y : Int) : Int := if y > x then y else x
def vcMinMax (mx : Bool) : List SV → (SV → Prop) → Prop
 | [.val (.int k1 a), .val (.int k2 b)], k => if k1 = k2 then (match mx with | true => k (.val (.int k1 (imax a b))) | false => k (.val (.int k1 (imin a b)))) else False
 | _, _ => False
def svs (e : Env) (l : List Operand) : List SV := l.map (ev e)
def known : List SV → Bool
 | [] => true
 | .no :: _ => false
 | _ :: r => known r
def vcP (C : Cfg) (e : Env) (op : Op) (k : SV → Prop) : Prop :=
 match op with
 | .move x => match ev e x with | .no => False | s => k s
 | .assign x => match ev e x with | .no => False | s => k s
 | .pick c a b =>
   match ev e c with
   | .lit true => (match ev e a with | .no => False | s => k s)
   | .lit false => (match ev e b with | .no => False | s => k s)
   | _ => False
 | .nilCheck x => vcNil (ev e x) k
 | .binOp op t x y _ => vcBinOp C e op t x y k
 | .unOp op _ x => vcUn op (ev e x) k
 | .convert src dst x => vcConv C.P src dst (ev e x) k
 | .fieldAddr s x f => vcFieldAddr C.P s (ev e x) f k
 | .indexAddr t x i => vcIndexAddr C.P t (ev e x) (ev e i) k
 | .index t x i => vcIndex C.P t (ev e x) (ev e i) k
 | .slice t x lo hi mx => vcSlice C.P t (ev e x) (bd e lo) (bd e hi) (bd e mx) k
 | .field t x f => vcField C.P t (ev e x) f k
 | .build t parts => vcBuild C.P t (parts.toList.map fun p => (p.1, ev e p.2)) k
 | .extract x i => vcExtract (ev e x) i k
 | .makeFunc fn first captured =>
   match known (svs e first.toList), known (svs e captured.toList) with
   | true, true => k (.val (.func fn ⟨SV.vs (svs e first.toList)⟩ ⟨SV.vs (svs e captured.toList)⟩))
   | _, _ => False
 | .call c =>
   match c.callee, c.args.toList, c.argTypes.toList with
   | .builtin .len, [x], t :: _ => vcLen C.P t (ev e x) k
   | .builtin .cap, [x], t :: _ => vcCap C.P t (ev e x) k
   | .builtin .min, [x, y], _ => vcMinMax false [ev e x, ev e y] k
   | .builtin .max, [x, y], _ => vcMinMax true [ev e x, ev e y] k
   | _, _, _ => False
 | _ => False
end Go.Vc
namespace Go.Vc
open Go
section
variable {P : Program}
theorem fieldOf_spec {s : TypeId} {f : Nat} {fd : Field} (h : fieldOf P s f = some fd) : ∃ fs, P.underlying s = some (.struct fs) ∧ fs[f]? = some fd := by
 unfold fieldOf at h
 split at h
 · rename_i fs hu; exact ⟨fs, hu, h⟩
 · cases h
theorem vcFieldAddr_sound {s : TypeId} {x : SV} {f : Nat} {k : SV → Prop} (h : vcFieldAddr P s x f k) : PureRun P (Instr.fieldAt s x.v f) k := by
 unfold vcFieldAddr at h
 split at h
 · rename_i a fd hfd
   obtain ⟨fs, hu, hfs⟩ := fieldOf_spec hfd
   split at h
   · rename_i sz hsz
     exact .intro _ h (by simp) fun w => by
       simp [Instr.fieldAt, run_underlying hu, hfs, Instr.sureAddr, SV.v, fieldPlace, run_sizeT hsz]
   · exact h.elim
 · exact h.elim
theorem vcIndexAddr_sound {t : TypeId} {x i : SV} {k : SV → Prop} (h : vcIndexAddr P t x i k) : PureRun P (Instr.indexAt t x.v i.v) k := by
 unfold vcIndexAddr at h
 split at h
 · rename_i el base len cap kd n hu
   split at h
   · rename_i sz hsz
     obtain ⟨ad, rfl, h0, h1, hk⟩ := h
     exact .intro _ hk (by simp) fun w => by
       simp [Instr.indexAt, asIntOf, SV.v, run_underlying hu, h0, h1, run_sizeT hsz]
   · exact h.elim
 · rename_i n el a kd i hu
   split at h
   · rename_i sz hsz
     obtain ⟨h0, h1, hk⟩ := h
     exact .intro _ hk (by simp) fun w => by
       simp [Instr.indexAt, asIntOf, SV.v, run_underlying hu, h0, h1, run_sizeT hsz, Instr.sureAddr]
   · exact h.elim
 · exact h.elim
theorem sAt_some {s : ByteArray} {i : Int} (h0 : 0 ≤ i) (h1 : i < (s.size : Int)) : ∃ b, s[i.toNat]? = some b ∧ (b.toNat : Int) = sAt s i := by
 have hlt : i.toNat < s.size := by omega
 refine ⟨s[i.toNat], by simp [hlt], ?_⟩
 unfold sAt
 have hd : i.toNat < s.data.toList.length := by simpa using hlt
 rw [List.getD_eq_getElem?_getD, List.getElem?_eq_getElem hd]
 rfl
theorem aggType_shOf {d : TypeDesc} {s : Sh} (h : shOf d = some s) : aggType (some d) = false := by
 cases d <;> simp_all [shOf, aggType]
theorem run_isAgg {t : TypeId} {d : TypeDesc} (h : P.underlying t = some d) (w : World) : (isAgg t).run P w = .ok (aggType (some d)) w := by
 unfold isAgg
 simp only [Sem.run_bind, run_underlying h, Result.andThen_ok]
 cases d <;> rfl
theorem run_part_one {t : TypeId} {d : TypeDesc} (hu : P.underlying t = some d) (ha : aggType (some d) = false) {cs : Array Value} {off : Nat} {v : Value} (hv : cs.toList[off]? = some v) (w : World) :
   (part t cs off).run P w = .ok v w := by
 have hv' : cs[off]? = some v := by simpa using hv
 simp [part, run_isAgg hu, ha, hv']
theorem vcIndex_sound {t : TypeId} {x i : SV} {k : SV → Prop} (h : vcIndex P t x i k) : PureRun P (Instr.index t x.v i.v) k := by
 unfold vcIndex at h
 split at h
 · rename_i s kd i hu
   obtain ⟨h0, h1, hk⟩ := h
   obtain ⟨b, hb, hs⟩ := sAt_some h0 h1
   exact .intro _ hk (by simp) fun w => by
     simp only [Instr.index, SV.v, asIntOf, Sem.run_bind, Sem.run_pure, Result.andThen_ok, run_underlying hu, h0, if_true, hb, hs]
 · rename_i n el cs kd i hu
   split at h
   · rename_i d hd hsz
     split at h
     · rename_i s hs
       obtain ⟨h0, h1, y, hy, hk⟩ := h
       refine .intro _ hk (by cases s <;> simp [Sh.sv]) fun w => ?_
       rw [Sh.sv_v]
       have ha := aggType_shOf hs
       simp only [Instr.index, SV.v, asIntOf, Sem.run_bind, Sem.run_pure, Result.andThen_ok, run_underlying hu, h0, h1, and_self, if_true, run_sizeT hsz, Nat.mul_one]
       rw [run_part_one hd ha hy]
     · exact h.elim
   · exact h.elim
 · exact h.elim
theorem run_sb (kd : IntKind) (i : Int) (y : Nat) (code : BoundsCode) (h0 : 0 ≤ i) (h1 : i ≤ y) (w : World) : (Instr.sliceBound (.int kd i) y code).run P w = .ok i.toNat w := by
 simp [Instr.sliceBound, asIntOf, h0, h1]
/-- a bound that stands in a slot, as the value that the machine sees -/
inductive BdIs : Bd → Option Value → Prop where
 | none : BdIs .none Option.none
 | at (i : Int) (kd : IntKind) : BdIs (.at i) (some (.int kd i))
 | bad (v : Option Value) : BdIs .bad v
theorem bd_is {n : Nat} {e : Env} {a : Act} (hf : Fits n e a) (x : Option Operand) : BdIs (bd e x) (x.map a.eval) := by
 cases x with
 | none => exact .none
 | some x =>
   unfold bd
   simp only [Option.map_some]
   split
   · rename_i kd i hx
     rw [hf.ev_v hx (by simp)]
     exact .at i kd
   · exact .bad _
theorem vcSlice_sound {t : TypeId} {x : SV} {lo hi mx : Bd} {vl vh vm : Option Value} (hl : BdIs lo vl) (hh : BdIs hi vh) (hm : BdIs mx vm) {k : SV → Prop} (h : vcSlice P t x lo hi mx k) : PureRun P (Instr.sliceAt t x.v vl vh vm) k := by
 unfold vcSlice at h
 split at h
 · rename_i s hu
   split at h
   · cases hl; cases hh; cases hm
     exact .intro _ h (by simp) fun w => by simp [Instr.sliceAt, run_underlying hu, Instr.slice, SV.v, Instr.sliceBounds]
   · cases hl; cases hh; cases hm
     obtain ⟨h0, h1, hk⟩ := h
     exact .intro _ hk (by simp) fun w => by simp [Instr.sliceAt, run_underlying hu, Instr.slice, SV.v, Instr.sliceBounds, run_sb _ _ _ _ h0 h1]
   · cases hl; cases hh; cases hm
     obtain ⟨h0, h1, hk⟩ := h
     exact .intro _ hk (by simp) fun w => by simp [Instr.sliceAt, run_underlying hu, Instr.slice, SV.v, Instr.sliceBounds, run_sb _ _ _ _ h0 h1]
   · rename_i l h'
     cases hl; cases hh; cases hm
     obtain ⟨h0, h1, h2, hk⟩ := h
     exact .intro _ hk (by simp) fun w => by
       simp [Instr.sliceAt, run_underlying hu, Instr.slice, SV.v, Instr.sliceBounds, run_sb _ _ _ _ (by omega) h2, run_sb _ l h'.toNat _ h0 (by omega)]
   · exact h.elim
 · rename_i el a len cap hu
   split at h
   · rename_i sz hsz
     split at h
     · cases hl; cases hh; cases hm
       exact .intro _ h (by simp) fun w => by simp [Instr.sliceAt, run_underlying hu, Instr.slice, SV.v, Instr.sliceBounds, run_sizeT hsz, slA]
     · cases hl; cases hh; cases hm
       obtain ⟨h0, h1, hk⟩ := h
       exact .intro _ hk (by simp) fun w => by simp [Instr.sliceAt, run_underlying hu, Instr.slice, SV.v, Instr.sliceBounds, run_sizeT hsz, slA, run_sb _ _ _ _ h0 h1]
     · cases hl; cases hh; cases hm
       obtain ⟨h0, h1, hk⟩ := h
       exact .intro _ hk (by simp) fun w => by simp [Instr.sliceAt, run_underlying hu, Instr.slice, SV.v, Instr.sliceBounds, run_sizeT hsz, slA, run_sb _ _ _ _ h0 h1]
     · rename_i l h'
       cases hl; cases hh; cases hm
       obtain ⟨h0, h1, h2, hk⟩ := h
       exact .intro _ hk (by simp) fun w => by
         simp [Instr.sliceAt, run_underlying hu, Instr.slice, SV.v, Instr.sliceBounds, run_sizeT hsz, slA, run_sb _ h' cap _ (by omega) h2, run_sb _ l h'.toNat _ h0 (by omega)]
     · rename_i h' m
       cases hl; cases hh; cases hm
       obtain ⟨h0, h1, h2, hk⟩ := h
       exact .intro _ hk (by simp) fun w => by
         simp [Instr.sliceAt, run_underlying hu, Instr.slice, SV.v, Instr.sliceBounds, run_sizeT hsz, slA, run_sb _ m cap _ (by omega) h2, run_sb _ h' m.toNat _ h0 (by omega)]
     · rename_i l h' m
       cases hl; cases hh; cases hm
       obtain ⟨h0, h1, h2, h3, hk⟩ := h
       exact .intro _ hk (by simp) fun w => by
         simp [Instr.sliceAt, run_underlying hu, Instr.slice, SV.v, Instr.sliceBounds, run_sizeT hsz, slA, run_sb _ m cap _ (by omega) h3, run_sb _ h' m.toNat _ (by omega) (by omega), run_sb _ l h'.toNat _ h0 (by omega)]
     · exact h.elim
   · exact h.elim
 · rename_i n el a hu
   split at h
   · rename_i sz hsz
     split at h
     · cases hl; cases hh; cases hm
       exact .intro _ h (by simp) fun w => by simp [Instr.sliceAt, run_underlying hu, SV.v, Instr.sliceBounds, run_sizeT hsz, Instr.sureAddr]
     · cases hl; cases hh; cases hm
       obtain ⟨h0, h1, hk⟩ := h
       exact .intro _ hk (by simp) fun w => by simp [Instr.sliceAt, run_underlying hu, SV.v, Instr.sliceBounds, run_sizeT hsz, Instr.sureAddr, run_sb _ _ _ _ h0 h1]
     · exact h.elim
   · exact h.elim
 · exact h.elim
theorem vcField_sound {t : TypeId} {x : SV} {f : Nat} {k : SV → Prop} (h : vcField P t x f k) : PureRun P (Instr.field t x.v f) k := by
 unfold vcField at h
 split at h
 · rename_i fd cs hfd
   obtain ⟨fs, hu, hfs⟩ := fieldOf_spec hfd
   split at h
   · rename_i d n hud hsz
     split at h
     · rename_i hag
       refine .intro _ h (by simp) fun w => ?_
       have : cs.extract fd.offset (fd.offset + n) = ⟨List.take n (List.drop fd.offset cs.toList)⟩ := by
         apply Array.toList_inj.1
         rw [Array.toList_extract, List.extract_eq_take_drop]
         congr 1
         omega
       simp [Instr.field, run_underlying hu, hfs, SV.v, asAgg, part, run_isAgg hud, hag, run_sizeT hsz, this]
     · rename_i hag
       split at h
       · rename_i v hv
         exact .intro _ h (by simp) fun w => by
           simp [Instr.field, run_underlying hu, hfs, SV.v, asAgg, run_part_one hud hag hv]
       · exact h.elim
   · exact h.elim
 · exact h.elim
theorem zipIdx_foldl (new : List Value) : ∀ (off j : Nat) (cells : Array Value), off + j + new.length ≤ cells.size →
   ((new.zipIdx j).foldl (fun cs (x : Value × Nat) => cs.setIfInBounds (off + x.2) x.1) cells).toList = over cells.toList (off + j) new := by
 induction new with
 | nil => intro off j cells h; simp [over]
 | cons v r ih =>
   intro off j cells h
   simp only [List.zipIdx_cons, List.foldl_cons]
   have h' : off + (j + 1) + r.length ≤ (cells.setIfInBounds (off + j) v).size := by simp at h ⊢; omega
   rw [ih off (j + 1) _ h']
   unfold over
   simp only [Array.toList_setIfInBounds, List.length_cons]
   have hlt : off + j < cells.toList.length := by simp at h ⊢; omega
   apply List.ext_getElem?
   intro i
   simp only [List.getElem?_append, List.length_append, List.length_take, List.length_set, List.getElem?_take, List.getElem?_set, List.getElem?_drop, List.length_cons, Array.length_toList]
   have hs : off + j < cells.size := by simpa using hlt
   have e1 : min (off + (j + 1)) cells.size = off + j + 1 := by omega
   have e2 : min (off + j) cells.size = off + j := by omega
   rw [e1, e2]
   by_cases c1 : i < off + j
   · have : i < off + j + 1 := by omega
     have c2 : i < off + j + 1 + r.length := by omega
     have c3 : i < off + j + (r.length + 1) := by omega
     have c4 : i < off + (j + 1) := by omega
     have c5 : ¬ off + j = i := by omega
     simp [c1, this, c2, c3, c4, c5]
   · by_cases c2 : i = off + j
     · subst c2
       simp [hs]
       omega
     · have c3 : ¬ i < off + j + 1 := by omega
       by_cases c4 : i < off + j + 1 + r.length
       · have c5 : i < off + j + (r.length + 1) := by omega
         simp only [c1, c3, c4, c5, if_true, if_false]
         rw [show i - (off + j) = (i - (off + j + 1)) + 1 by omega]
         simp
       · have c5 : ¬ i < off + j + (r.length + 1) := by omega
         simp only [c4, c5, if_false]
         have c6 : ¬ off + j = off + (j + 1) + r.length + (i - (off + j + 1 + r.length)) := by omega
         rw [if_neg c6]
         congr 1
         omega
theorem lay_fill (place : Nat → Option (Nat × Nat)) : ∀ (parts : List (Nat × SV)) (cells l : List Value), lay place cells parts = some l →
   Instr.fill place ⟨cells⟩ (parts.map fun p => (p.1, p.2.v)) = some ⟨l⟩
 | [], cells, l, h => by simp [lay] at h; subst h; simp [Instr.fill]
 | (i, x) :: r, cells, l, h => by
   unfold lay at h
   split at h
   · rename_i off size v hp hx
     have hv : x.v = v := by cases x <;> simp_all [SV.den]
     split at h
     · rename_i hc
       obtain ⟨h1, h2⟩ := hc
       have h1' : v.cells.size = size := by simpa using h1
       simp only [List.map_cons, Instr.fill, hp, hv]
       have hneg : (decide (v.cells.size ≠ size) || decide (off + v.cells.size > ({ toList := cells } : Array Value).size)) = false := by
         simp [h1']; simpa using h2
       simp only [hneg, Bool.false_eq_true, if_false]
       rw [← lay_fill place r _ l h]
       congr 1
       apply Array.toList_inj.1
       rw [← Array.foldl_toList, Array.toList_zipIdx]
       have := zipIdx_foldl v.cells.toList off 0 ⟨cells⟩ (by simp; omega)
       simpa using this
     · cases h
   · cases h
theorem run_places {fs : Array Field} (h : allSized P fs.toList = true) (w : World) :
   ∃ places : Array (Nat × Nat), (fs.mapM (m := Sem) fun f => do pure (f.offset, ← sizeOf f.type)).run P w = .ok places w ∧ ∀ i, places[i]? = placeOf P fs.toList i := by
 have key : ∀ l : List Field, allSized P l = true → ∃ ps : List (Nat × Nat), (l.mapM (m := Sem) fun f => do pure (f.offset, ← sizeOf f.type)).run P w = .ok ps w ∧ ∀ i, ps[i]? = placeOf P l i := by
   intro l
   induction l with
   | nil => intro _; exact ⟨[], by simp, fun i => by simp [placeOf]⟩
   | cons f r ih =>
     intro hl
     unfold allSized at hl
     split at hl
     · rename_i sz hsz
       obtain ⟨ps, h1, h2⟩ := ih hl
       refine ⟨(f.offset, sz) :: ps, by simp only [List.mapM_cons, Sem.run_bind, run_sizeT hsz, Result.andThen_ok, Sem.run_pure, h1], fun i => ?_⟩
       cases i with
       | zero => simp [placeOf, hsz]
       | succ i => simpa [placeOf] using h2 i
     · cases hl
 obtain ⟨ps, h1, h2⟩ := key fs.toList h
 refine ⟨ps.toArray, ?_, fun i => by simpa using h2 i⟩
 rw [Array.mapM_eq_mapM_toList]
 simp only [Sem.run_map, h1, Result.andThen_ok]
theorem vcBuild_sound {t : TypeId} {parts : List (Nat × SV)} {k : SV → Prop} (h : vcBuild P t parts k) : PureRun P (Instr.build t ⟨parts.map fun p => (p.1, p.2.v)⟩) k := by
 unfold vcBuild at h
 split at h
 · rename_i z fs hz hu
   split at h
   · rename_i l has hl
     refine .intro _ h (by simp) fun w => ?_
     obtain ⟨places, hp, hpl⟩ := run_places has w
     have he : (fun i => places[i]?) = placeOf P fs.toList := funext hpl
     have := lay_fill _ _ _ _ hl
     simp only [Instr.build, Sem.run_bind, run_zeroT hz, Result.andThen_ok, run_underlying hu, hp]
     rw [he]
     have hz' : (⟨z.cells.toList⟩ : Array Value) = z.cells := rfl
     rw [hz'] at this
     simp [this, SV.v]
   · exact h.elim
 · rename_i z n el hz hu
   split at h
   · rename_i sz hsz
     split at h
     · rename_i l hl
       refine .intro _ h (by simp) fun w => ?_
       have := lay_fill _ _ _ _ hl
       have hz' : (⟨z.cells.toList⟩ : Array Value) = z.cells := rfl
       rw [hz'] at this
       simp only [Instr.build, Sem.run_bind, run_zeroT hz, Result.andThen_ok, run_underlying hu, run_sizeT hsz]
       simp [this, SV.v]
     · exact h.elim
   · exact h.elim
 · exact h.elim
theorem lay_no {place : Nat → Option (Nat × Nat)} : ∀ {parts : List (Nat × SV)} {cells l : List Value}, lay place cells parts = some l → ∀ p ∈ parts, p.2 ≠ .no
 | [], _, _, _, p, hp => by cases hp
 | (i, x) :: r, cells, l, h, p, hp => by
   unfold lay at h
   split at h
   · rename_i off size v _ hx
     split at h
     · rcases List.mem_cons.1 hp with rfl | hp
       · intro hn
         simp only at hn
         rw [hn] at hx
         cases hx
       · exact lay_no h p hp
     · cases h
   · cases h
theorem vcBuild_no {t : TypeId} {parts : List (Nat × SV)} {k : SV → Prop} (h : vcBuild P t parts k) : ∀ p ∈ parts, p.2 ≠ .no := by
 unfold vcBuild at h
 split at h
 · split at h
   · rename_i hl; exact lay_no hl
   · exact h.elim
 · split at h
   · split at h
     · rename_i hl; exact lay_no hl
     · exact h.elim
   · exact h.elim
 · exact h.elim
theorem SV.vs_get : ∀ (l : List SV) (i : Nat) (s : SV), l[i]? = some s → (SV.vs l)[i]? = some s.v
 | x :: r, 0, s, h => by simp at h; subst h; simp [SV.vs]
 | x :: r, i + 1, s, h => by simp [SV.vs]; exact SV.vs_get r i s (by simpa using h)
theorem vcExtract_sound {x : SV} {i : Nat} {k : SV → Prop} (h : vcExtract x i k) : PureRun P (Instr.extract x.v i) k := by
 unfold vcExtract at h
 split at h
 · rename_i l
   split at h
   · exact h.elim
   · rename_i s hn hs
     refine .intro s h (fun e => hn (by rw [e])) fun w => ?_
     have := SV.vs_get l i s hs
     have h2 : (⟨SV.vs l⟩ : Array Value)[i]? = some s.v := by simpa using this
     simp [Instr.extract, SV.v, h2]
   · exact h.elim
 · rename_i vs
   split at h
   · rename_i v hv
     have h2 : vs[i]? = some v := by simpa using hv
     exact .intro _ h (by simp) fun w => by simp [Instr.extract, SV.v, h2]
   · exact h.elim
 · exact h.elim
theorem vcConv_sound {src dst : TypeId} {x : SV} {k : SV → Prop} (h : vcConv P src dst x k) : PureRun P (convert src dst x.v) k := by
 unfold vcConv at h
 split at h
 · rename_i d kd kx n hs hd
   exact .intro _ h (by simp) fun w => by
     simp [convert, run_underlying hs, run_underlying hd, SV.v, Conv.intToInt]
 · rename_i s hs hd
   exact .intro _ h (by simp) fun w => by
     simp [convert, run_underlying hs, run_underlying hd, SV.v]
 · exact h.elim
theorem vcLen_sound {t ty : TypeId} {rest : List TypeId} {x : SV} {v : Value} {k : SV → Prop} (hv : x ≠ .no → v = x.v) (h : vcLen P t x k) : PureRun P (Builtin.len_ ⟨t :: rest⟩ ty #[v]) k := by
 unfold vcLen at h
 split at h
 · rename_i s hu
   rw [hv (by simp)]
   exact .intro _ h (by simp) fun w => by simp [Builtin.len_, run_underlying hu, SV.v, goInt]
 · rename_i el a n c hu
   rw [hv (by simp)]
   exact .intro _ h (by simp) fun w => by simp [Builtin.len_, run_underlying hu, SV.v, goInt]
 · rename_i n el hu
   exact .intro _ h (by simp) fun w => by simp [Builtin.len_, run_underlying hu, SV.v, goInt]
 · exact h.elim
theorem vcCap_sound {t ty : TypeId} {rest : List TypeId} {x : SV} {v : Value} {k : SV → Prop} (hv : x ≠ .no → v = x.v) (h : vcCap P t x k) : PureRun P (Builtin.cap_ ⟨t :: rest⟩ ty #[v]) k := by
 unfold vcCap at h
 split at h
 · rename_i el a n c hu
   rw [hv (by simp)]
   exact .intro _ h (by simp) fun w => by simp [Builtin.cap_, run_underlying hu, SV.v, goInt]
 · exact h.elim
theorem vcMin_sound {ts : Array TypeId} {ty : TypeId} {x y : SV} {u v : Value} {k : SV → Prop} (hx : x ≠ .no → u = x.v) (hy : y ≠ .no → v = y.v) (h : vcMinMax false [x, y] k) : PureRun P (Builtin.min_ ts ty #[u, v]) k := by
 unfold vcMinMax at h
 split at h
 · rename_i k1 a k2 b heq
   simp only [List.cons.injEq, and_true] at heq
   obtain ⟨rfl, rfl⟩ := heq
   split at h
   · rename_i hk
     subst hk
     simp only at h
     rw [hx (by simp), hy (by simp)]
     exact .intro _ h (by simp) fun w => by simp [Builtin.min_, Builtin.min2, SV.v, imin]
   · exact h.elim
 · exact h.elim
theorem vcMax_sound {ts : Array TypeId} {ty : TypeId} {x y : SV} {u v : Value} {k : SV → Prop} (hx : x ≠ .no → u = x.v) (hy : y ≠ .no → v = y.v) (h : vcMinMax true [x, y] k) : PureRun P (Builtin.max_ ts ty #[u, v]) k := by
 unfold vcMinMax at h
 split at h
 · rename_i k1 a k2 b heq
   simp only [List.cons.injEq, and_true] at heq
   obtain ⟨rfl, rfl⟩ := heq
   split at h
   · rename_i hk
     subst hk
     simp only at h
     rw [hx (by simp), hy (by simp)]
     exact .intro _ h (by simp) fun w => by simp [Builtin.max_, Builtin.max2, SV.v, imax]
   · exact h.elim
 · exact h.elim
theorem SV.den_ne {s : SV} (h : s ≠ .no) : s.den = some s.v := by cases s <;> simp_all [SV.den]
/-- an operation that only reckons -/
def Reckons (P : Program) (a : Act) (o : Oper) (k : SV → Prop) : Prop := ∃ sv v, k sv ∧ sv.den = some v ∧ ∀ w, (execOp a.eval o).run P w = .ok (.value v) w
theorem Reckons.of {a : Act} {o : Oper} {s : Sem Value} {k : SV → Prop} (h : PureRun P s k) (he : execOp a.eval o = (do pure (.value (← s)))) : Reckons P a o k := by
 obtain ⟨sv, v, h1, h2, h3⟩ := h
 exact ⟨sv, v, h1, h2, fun w => by rw [he]; simp [h3]⟩
theorem known_vs {n : Nat} {e : Env} {a : Act} (hf : Fits n e a) : ∀ l : List Operand, known (svs e l) = true → l.map a.eval = SV.vs (svs e l)
 | [], _ => rfl
 | x :: r, h => by
   simp only [svs, List.map_cons, SV.vs] at h ⊢
   cases hx : ev e x <;> rw [hx] at h <;> simp only [known] at h <;> first
     | cases h
     | (rw [hf.ev_v hx (by simp)]
        congr 1
        exact known_vs hf r h)
end
theorem vcP_sound {C : Cfg} (hC : CfgOk C) {n : Nat} {e : Env} {a : Act} (hf : Fits n e a) {o : Oper} {k : SV → Prop} (h : vcP C e o.op k) : Reckons C.P a o k := by
 obtain ⟨dst, op, type, pos, after, guard⟩ := o
 cases op <;> simp only [vcP] at h
 case move x =>
   split at h
   · exact h.elim
   · rename_i s hn
     exact ⟨_, _, h, SV.den_ne hn, fun w => by simp [execOp, hf.ev_v rfl hn]⟩
 case assign x =>
   split at h
   · exact h.elim
   · rename_i s hn
     exact ⟨_, _, h, SV.den_ne hn, fun w => by simp [execOp, hf.ev_v rfl hn]⟩
 case pick c x y =>
   split at h
   · rename_i hc
     split at h
     · exact h.elim
     · rename_i s hn
       exact ⟨_, _, h, SV.den_ne hn, fun w => by simp [execOp, hf.ev_v hc (by simp), SV.v, asBool, hf.ev_v rfl hn]⟩
   · rename_i hc
     split at h
     · exact h.elim
     · rename_i s hn
       exact ⟨_, _, h, SV.den_ne hn, fun w => by simp [execOp, hf.ev_v hc (by simp), SV.v, asBool, hf.ev_v rfl hn]⟩
   · exact h.elim
 case nilCheck x =>
   unfold vcNil at h
   split at h
   · rename_i ad hx
     exact ⟨_, _, h, rfl, fun w => by simp [execOp, hf.ev_v hx (by simp), SV.v]⟩
   · rename_i f first cap hx
     exact ⟨_, _, h, rfl, fun w => by simp [execOp, hf.ev_v hx (by simp), SV.v]⟩
   · rename_i p hx
     obtain ⟨ad, rfl, hk⟩ := h
     exact ⟨_, _, hk, rfl, fun w => by simp [execOp, hf.ev_v hx (by simp), SV.v]⟩
   · rename_i f first cap hx
     exact ⟨_, _, h, rfl, fun w => by simp [execOp, hf.ev_v hx (by simp), SV.v]⟩
   · rename_i v hx
     obtain ⟨f, first, cap, rfl, hk⟩ := h
     exact ⟨_, _, hk, rfl, fun w => by simp [execOp, hf.ev_v hx (by simp), SV.v]⟩
   · exact h.elim
 case binOp op t x y ty => exact .of (vcBinOp_sound hC hf h) rfl
 case unOp op t x =>
   exact .of (vcUn_sound h) (by simp [execOp, hf.ev_v rfl (vcUn_no h)])
 case convert src dst x =>
   exact .of (vcConv_sound h) (by simp only [execOp]; rw [hf.ev_v rfl (fun hn => by rw [hn] at h; unfold vcConv at h; split at h <;> simp_all)])
 case fieldAddr s x f =>
   exact .of (vcFieldAddr_sound h) (by simp only [execOp]; rw [hf.ev_v rfl (fun hn => by rw [hn] at h; unfold vcFieldAddr at h; split at h <;> simp_all)])
 case indexAddr t x i =>
   exact .of (vcIndexAddr_sound h) (by
     simp only [execOp]
     rw [hf.ev_v (x := x) rfl (fun hn => by rw [hn] at h; unfold vcIndexAddr at h; split at h <;> simp_all), hf.ev_v (x := i) rfl (fun hn => by rw [hn] at h; unfold vcIndexAddr at h; split at h <;> simp_all)])
 case index t x i =>
   exact .of (vcIndex_sound h) (by
     simp only [execOp]
     rw [hf.ev_v (x := x) rfl (fun hn => by rw [hn] at h; unfold vcIndex at h; split at h <;> simp_all), hf.ev_v (x := i) rfl (fun hn => by rw [hn] at h; unfold vcIndex at h; split at h <;> simp_all)])
 case slice t x lo hi mx =>
   exact .of (vcSlice_sound (bd_is hf lo) (bd_is hf hi) (bd_is hf mx) h) (by
     simp only [execOp]; rw [hf.ev_v (x := x) rfl (fun hn => by rw [hn] at h; unfold vcSlice at h; split at h <;> simp_all)])
 case field t x f =>
   exact .of (vcField_sound h) (by simp only [execOp]; rw [hf.ev_v rfl (fun hn => by rw [hn] at h; unfold vcField at h; split at h <;> simp_all)])
 case build t parts =>
   have hp : parts.map (fun p => (p.1, a.eval p.2)) = ⟨(parts.toList.map fun p => (p.1, ev e p.2)).map fun p => (p.1, p.2.v)⟩ ∨ ∃ p ∈ parts.toList, ev e p.2 = .no := by
     by_cases hc : ∃ p ∈ parts.toList, ev e p.2 = .no
     · exact .inr hc
     · refine .inl ?_
       apply Array.toList_inj.1
       simp only [Array.toList_map, List.map_map]
       refine List.map_congr_left fun p hp => ?_
       simp only [Function.comp_apply, Prod.mk.injEq, true_and]
       exact hf.ev_v rfl fun hn => hc ⟨p, hp, hn⟩
   rcases hp with hp | ⟨p, hp, hn⟩
   · exact .of (vcBuild_sound h) (by simp only [execOp]; rw [hp])
   · exfalso
     refine vcBuild_no h (p.1, ev e p.2) (List.mem_map.2 ⟨p, hp, rfl⟩) hn
 case extract x i =>
   exact .of (vcExtract_sound h) (by simp only [execOp]; rw [hf.ev_v rfl (fun hn => by rw [hn] at h; unfold vcExtract at h; split at h <;> simp_all)])
 case makeFunc fn first captured =>
   split at h
   · rename_i h1 h2
     have e1 : first.map a.eval = ⟨SV.vs (svs e first.toList)⟩ := by apply Array.toList_inj.1; simp [known_vs hf _ h1]
     have e2 : captured.map a.eval = ⟨SV.vs (svs e captured.toList)⟩ := by apply Array.toList_inj.1; simp [known_vs hf _ h2]
     exact ⟨_, _, h, rfl, fun w => by simp [execOp, Instr.makeFunc, e1, e2, SV.v]⟩
   · exact h.elim
 case call c =>
   obtain ⟨callee, args, argTypes⟩ := c
   simp only at h
   split at h
   · rename_i x t rest hargs htys
     have e1 : args = #[x] := by apply Array.toList_inj.1; simpa using hargs
     have e2 : argTypes = ⟨t :: rest⟩ := by apply Array.toList_inj.1; simpa using htys
     subst e1 e2
     exact .of (vcLen_sound (ty := type) (rest := rest) (v := a.eval x) (fun hn => hf.ev_v rfl hn) h) (by simp [execOp, resolve, invoke, builtin])
   · rename_i x t rest hargs htys
     have e1 : args = #[x] := by apply Array.toList_inj.1; simpa using hargs
     have e2 : argTypes = ⟨t :: rest⟩ := by apply Array.toList_inj.1; simpa using htys
     subst e1 e2
     exact .of (vcCap_sound (ty := type) (rest := rest) (v := a.eval x) (fun hn => hf.ev_v rfl hn) h) (by simp [execOp, resolve, invoke, builtin])
   · rename_i x y hargs
     have e1 : args = #[x, y] := by apply Array.toList_inj.1; simpa using hargs
     subst e1
     exact .of (vcMin_sound (ts := argTypes) (ty := type) (u := a.eval x) (v := a.eval y) (fun hn => hf.ev_v rfl hn) (fun hn => hf.ev_v rfl hn) h) (by simp [execOp, resolve, invoke, builtin])
   · rename_i x y hargs
     have e1 : args = #[x, y] := by apply Array.toList_inj.1; simpa using hargs
     subst e1
     exact .of (vcMax_sound (ts := argTypes) (ty := type) (u := a.eval x) (v := a.eval y) (fun hn => hf.ev_v rfl hn) (fun hn => hf.ev_v rfl hn) h) (by simp [execOp, resolve, invoke, builtin])
   · exact h.elim
 all_goals exact h.elim
end Go.Vc
namespace Go.Vc
open Go
/-! ### Loads -/
/-- cells that lie from a place on -/
def ldCells (w : World) (a : Addr) : Nat → List Sh → (List SV → List (Addr × Value) → Prop) → Prop
 | _, [], k => k [] []
 | i, s :: r, k => ∃ x : s.T, w.cell? (a.add i) = some (s.mk x) ∧ ldCells w a (i + 1) r fun xs fs => k (s.sv x :: xs) ((a.add i, s.mk x) :: fs)
def vcLoad (P : Program) (t : TypeId) (x : SV) (w : World) (k : SV → List (Addr × Value) → Prop) : Prop :=
 match x, lyOf P t with
 | .adr a, some (.one s) => ∃ x : s.T, w.cell? a = some (s.mk x) ∧ k (s.sv x) [(a, s.mk x)]
 | .adr a, some (.agg l) =>
   match sizeT P t with
   | some n => match Nat.beq n l.length with
     | true => ldCells w a 0 l fun xs fs => k (.val (.agg ⟨SV.vs xs⟩)) fs
     | false => False
   | none => False
 | _, _ => False
def Facts (fs : List (Addr × Value)) (w : World) : Prop := ∀ p ∈ fs, w.cell? p.1 = some p.2
theorem ldCells_sound {w : World} {a : Addr} : ∀ (l : List Sh) (i : Nat) (k : List SV → List (Addr × Value) → Prop), ldCells w a i l k →
   ∃ xs fs, k xs fs ∧ Facts fs w ∧ xs.length = l.length ∧ ∀ (P : Program) (w' : World), Facts fs w' → ∀ acc : Array Value, (loadCellsFrom a i l.length acc).run P w' = .ok ⟨acc.toList ++ SV.vs xs⟩ w'
 | [], i, k, h => ⟨[], [], h, fun p hp => (List.not_mem_nil hp).elim, rfl, fun P w' _ acc => by simp [loadCellsFrom, SV.vs]⟩
 | s :: r, i, k, h => by
   obtain ⟨x, hx, hr⟩ := h
   obtain ⟨xs, fs, h1, h2, h3, h4⟩ := ldCells_sound r (i + 1) _ hr
   refine ⟨s.sv x :: xs, (a.add i, s.mk x) :: fs, h1, fun p hp => ?_, by simp [h3], fun P w' hf acc => ?_⟩
   · rcases List.mem_cons.1 hp with rfl | hp
     · exact hx
     · exact h2 p hp
   · have hc : w'.cell? (a.add i) = some (s.mk x) := hf _ (List.mem_cons_self ..)
     have := h4 P w' (fun p hp => hf p (List.mem_cons_of_mem _ hp)) (acc.push (s.mk x))
     simp only [List.length_cons, loadCellsFrom, Sem.run_bind, run_load, hc, Result.andThen_ok, this, SV.vs, Sh.sv_v]
     simp
theorem lyOf_one {P : Program} {t : TypeId} {s : Sh} (h : lyOf P t = some (.one s)) : ∃ d, P.underlying t = some d ∧ aggType (some d) = false := by
 unfold lyOf at h
 split at h
 · split at h <;> cases h
 · split at h <;> cases h
 · rename_i d _ _ hu
   split at h
   · rename_i hs; exact ⟨d, hu, aggType_shOf hs⟩
   · cases h
 · cases h
theorem lyOf_agg {P : Program} {t : TypeId} {l : List Sh} (h : lyOf P t = some (.agg l)) : ∃ d, P.underlying t = some d ∧ aggType (some d) = true := by
 unfold lyOf at h
 split at h
 · rename_i hu; exact ⟨_, hu, rfl⟩
 · rename_i hu; exact ⟨_, hu, rfl⟩
 · split at h <;> cases h
 · cases h
theorem vcLoad_sound {P : Program} {t : TypeId} {x : SV} {w : World} {k : SV → List (Addr × Value) → Prop} (h : vcLoad P t x w k) :
   ∃ sv v fs, k sv fs ∧ sv.den = some v ∧ Facts fs w ∧ ∀ w', Facts fs w' → (Instr.loadAt t x.v).run P w' = .ok v w' := by
 unfold vcLoad at h
 split at h
 · rename_i a s hl
   obtain ⟨y, hy, hk⟩ := h
   obtain ⟨d, hu, hag⟩ := lyOf_one hl
   refine ⟨_, _, _, hk, s.sv_den y, fun p hp => ?_, fun w' hf => ?_⟩
   · simp only [List.mem_singleton] at hp; subst hp; exact hy
   · have hc : w'.cell? a = some (s.mk y) := hf (a, s.mk y) (by simp)
     simp only [Instr.loadAt, SV.v, Instr.sureAddr, Sem.run_bind, Sem.run_pure, Result.andThen_ok, loadVar, run_isAgg hu, hag, Bool.false_eq_true, if_false, run_load, hc]
 · rename_i a l hl
   obtain ⟨d, hu, hag⟩ := lyOf_agg hl
   split at h
   · rename_i n hn
     split at h
     · rename_i hb
       have hb' : n = l.length := Nat.eq_of_beq_eq_true hb
       obtain ⟨xs, fs, h1, h2, h3, h4⟩ := ldCells_sound l 0 _ h
       refine ⟨_, _, _, h1, rfl, h2, fun w' hf => ?_⟩
       have := h4 P w' hf #[]
       simp only [Instr.loadAt, SV.v, Instr.sureAddr, Sem.run_bind, Sem.run_pure, Result.andThen_ok, loadVar, run_isAgg hu, hag, if_true, run_sizeT hn, loadCells, hb', this]
       simp
     · exact h.elim
   · exact h.elim
 · exact h.elim
/-! ### Operations that turn the world -/
def Wr (w : World) (a : Addr) : Prop := (∃ old, w.cell? a = some old) ∧ w.frozen? a = false
def oneSV : SV → Prop → Prop
 | .no, _ => False
 | .tup _, _ => False
 | .opq v, p => v.oneCell' = true ∧ p
 | .val v, p => match v.oneCell' with | true => p | false => False
 | _, p => p
def stCells (a : Addr) : Nat → List SV → World → (World → Prop) → Prop
 | _, [], w, k => k w
 | i, x :: r, w, k => oneSV x (Wr w (a.add i) ∧ stCells a (i + 1) r (w.setCell (a.add i) x.v) k)
def aggSV : SV → List SV
 | .val (.agg cs) => cellSV cs.toList
 | x => [x]
def vcStore (P : Program) (t : TypeId) (x y : SV) (w : World) (k : World → Prop) : Prop :=
 match x, sizeT P t with
 | .adr a, some n =>
   match Nat.beq n (aggSV y).length with
   | true => stCells a 0 (aggSV y) w k
   | false => False
 | _, _ => False
theorem oneSV_spec {x : SV} {p : Prop} (h : oneSV x p) : x.v.oneCell' = true ∧ p ∧ x ≠ .no := by
 cases x <;> simp only [oneSV] at h
 case lit b => exact ⟨rfl, h, by simp⟩
 case adr b => exact ⟨rfl, h, by simp⟩
 case opq v => exact ⟨h.1, h.2, by simp⟩
 case fnv f a b => exact ⟨rfl, h, by simp⟩
 case val v =>
   split at h
   · rename_i hv; exact ⟨hv, h, by simp⟩
   · exact h.elim
theorem cellSV_vs : ∀ l : List Value, SV.vs (cellSV l) = l
 | [] => rfl
 | v :: r => by simp [cellSV, SV.vs, SV.v, cellSV_vs r]
theorem run_store_wr {P : Program} {w : World} {a : Addr} {v : Value} {m : Mode} (hv : v.oneCell' = true) (h : Wr w a) : (store a v m).run P w = .ok () (w.setCell a v) := by
 obtain ⟨⟨old, ho⟩, hf⟩ := h
 rw [run_store P w a v m hv]
 simp [ho, hf]
theorem stCells_sound {P : Program} {a : Addr} : ∀ (l : List SV) (i : Nat) (w : World) (k : World → Prop), stCells a i l w k →
   ∃ w', k w' ∧ (storeCells a (SV.vs l) i).run P w = .ok () w'
 | [], i, w, k, h => ⟨w, h, by simp [SV.vs, storeCells]⟩
 | x :: r, i, w, k, h => by
   obtain ⟨h1, ⟨h2, h3⟩, _⟩ := oneSV_spec h
   obtain ⟨w', hk, hr⟩ := stCells_sound (P := P) r (i + 1) _ k h3
   exact ⟨w', hk, by simp [SV.vs, storeCells, run_store_wr h1 h2, hr]⟩
theorem stCells_known {a : Addr} : ∀ (l : List SV) (i : Nat) (w : World) (k : World → Prop), stCells a i l w k → ∀ x ∈ l, x.v.oneCell' = true ∧ x ≠ .no
 | [], _, _, _, _, x, hx => by cases hx
 | y :: r, i, w, k, h, x, hx => by
   obtain ⟨h1, ⟨_, h3⟩, h4⟩ := oneSV_spec h
   rcases List.mem_cons.1 hx with rfl | hx
   · exact ⟨h1, h4⟩
   · exact stCells_known r _ _ _ h3 x hx
theorem aggSV_cells {y : SV} (h : ∀ x ∈ aggSV y, x.v.oneCell' = true ∧ x ≠ .no) : y.v.cells.toList = SV.vs (aggSV y) ∧ y ≠ .no := by
 unfold aggSV at *
 split at h
 · rename_i cs
   simp [SV.v, Value.cells, cellSV_vs]
 · rename_i hne
   obtain ⟨h1, h2⟩ := h y (List.mem_singleton.2 rfl)
   refine ⟨?_, h2⟩
   have : y.v.cells = #[y.v] := by
     cases hv : y.v <;> simp_all [Value.cells, Value.oneCell']
   rw [this]
   simp [SV.vs]
theorem vcStore_sound {P : Program} {t : TypeId} {x y : SV} {w : World} {k : World → Prop} (h : vcStore P t x y w k) :
   x ≠ .no ∧ y ≠ .no ∧ ∃ w', k w' ∧ (Instr.storeAt t x.v y.v).run P w = .ok () w' := by
 unfold vcStore at h
 split at h
 · rename_i a n hn
   split at h
   · rename_i hb
     have hb' := Nat.eq_of_beq_eq_true hb
     obtain ⟨w', hk, hr⟩ := stCells_sound (P := P) _ 0 w k h
     obtain ⟨hc, hy⟩ := aggSV_cells (stCells_known _ _ _ _ h)
     refine ⟨by simp, hy, w', hk, ?_⟩
     have hsz : y.v.cells.size = n := by
       have : y.v.cells.toList.length = (aggSV y).length := by
         rw [hc]
         have : ∀ l : List SV, (SV.vs l).length = l.length := fun l => by induction l <;> simp_all [SV.vs]
         exact this _
       rw [hb']
       simpa using this
     have hc' : storeCells a y.v.cells.toList 0 = storeCells a (SV.vs (aggSV y)) 0 := by rw [hc]
     simp only [Instr.storeAt, SV.v, Instr.sureAddr, Sem.run_bind, Sem.run_pure, Result.andThen_ok, storeVar, run_sizeT hn, hsz, ne_eq, not_true_eq_false, if_false]
     rw [hc', hr]
   · exact h.elim
 · exact h.elim
/-- parts that fill a row from its beginning -/
def seqParts : Nat → Nat → List (Nat × SV) → Option (List Value)
 | _, _, [] => some []
 | n, size, (i, x) :: r =>
   match Nat.beq i n, x.den with
   | true, some v =>
     match Nat.beq v.cells.toList.length size, seqParts (n + 1) size r with
     | true, some l => some (v.cells.toList ++ l)
     | _, _ => none
   | _, _ => none
def vcBuildSlice (P : Program) (t : TypeId) (len : Nat) (parts : List (Nat × SV)) (w : World) (k : SV → World → Prop) : Prop :=
 match P.underlying t with
 | some (.slice e) =>
   match sizeT P e, zeroT P e with
   | some sz, some z =>
     match Nat.beq parts.length len, Nat.beq z.cells.size sz, Nat.ble (len * sz) 4096, Nat.ble 1 sz, seqParts 0 sz parts with
     | true, true, true, true, some l => k (.val (.slice (some ⟨w.heap.size, 0, none⟩) len len)) (w.alloc (.cells ⟨l⟩ e))
     | _, _, _, _, _ => False
   | _, _ => False
 | _ => False
/-- the results of an operation or a call, as one slot -/
def resSV : List SV → SV
 | [x] => x
 | l => .tup l
def resV : List Value → Value
 | [v] => v
 | l => .tuple ⟨l⟩
theorem resSV_v (l : List SV) : (resSV l).v = resV (SV.vs l) := by
 unfold resSV
 split
 · rfl
 · rename_i hne
   unfold resV
   match l, hne with
   | [], _ => simp [SV.vs, SV.v]
   | [x], hne => exact absurd rfl (hne x)
   | x :: y :: r, _ => simp [SV.vs, SV.v]
/-- a run whose value is typed -/
def RunT (P : Program) (s : Sem Value) (lys : List Ly) (w : World) (R : Fn (flats lys) (World → Prop)) : Prop :=
 exF (flats lys) R fun xs F => ∃ w', s.run P w = .ok (resV (SV.vs (packs lys xs))) w' ∧ F w'
def RunN (P : Program) (s : Sem Next) (lys : List Ly) (w : World) (R : Fn (flats lys) (World → Prop)) : Prop :=
 exF (flats lys) R fun xs F => ∃ w', s.run P w = .ok (.value (resV (SV.vs (packs lys xs)))) w' ∧ F w'
def RunU (P : Program) (s : Sem Unit) (w : World) (R : World → Prop) : Prop := ∃ w', s.run P w = .ok () w' ∧ R w'
/-- a call that returns typed results -/
def RetT (P : Program) (lys : List Ly) (f : FuncId) (args : Array Value) (w : World) (R : Fn (flats lys) (World → Prop)) : Prop :=
 Calls P f args w fun e w' => exF (flats lys) R fun xs F => e = .returned (resV (SV.vs (packs lys xs))) ∧ F w'
/-- one step of an iterator: at the end, or with a key and an element -/
def NextT (P : Program) (s : Sem Value) (sk se : Sh) (w : World) (K0 : World → Prop) (K1 : sk.T → se.T → World → Prop) : Prop :=
 ∃ v w', s.run P w = .ok v w' ∧ ((v = .tuple #[.bool false] ∧ K0 w') ∨ ∃ x y, v = .tuple #[.bool true, sk.mk x, se.mk y] ∧ K1 x y w')
/-- the types of what an iterator hands out, where they are told -/
def nextTys (P : Program) (t : TypeId) : Option (TypeId × TypeId) := match P.underlying t with
 | some (.tuple ts) => match ts.toList with
   | [_, tk, te] => some (tk, te)
   | _ => none
 | _ => none
def Callable (P : Program) (f : Nat) : Prop := ∃ fn, P.funcs[f]? = some fn ∧ fn.body.isNone = false ∧ (fn.name == "runtime.NumGoroutine") = false
/-- the values of a type's results: of a tuple, each -/
def lysTys (P : Program) : List TypeId → Option (List Ly)
 | [] => some []
 | t :: r => match lyOf P t, lysTys P r with
   | some l, some ls => some (l :: ls)
   | _, _ => none
def lysOf (P : Program) (t : TypeId) : Option (List Ly) :=
 match P.underlying t with
 | some (.tuple ts) => lysTys P ts.toList
 | _ => match lyOf P t with | some l => some [l] | none => none
/-- what is said of a curried function is said of the one that takes a list -/
theorem exF_cur {α : Type} : ∀ (l : List Sh) (f : List SV → α) (k : List SV → α → Prop), exF l (cur l f) k → ∃ xs, k xs (f xs) ∧ xs.length = l.length ∧ ∀ x ∈ xs, x ≠ .no
 | [], f, k, h => ⟨[], h, rfl, fun _ hx => by cases hx⟩
 | s :: r, f, k, ⟨x, hx⟩ => by
   obtain ⟨xs, h1, h2, h3⟩ := exF_cur r _ _ hx
   refine ⟨s.sv x :: xs, h1, by simp [h2], fun y hy => ?_⟩
   rcases List.mem_cons.1 hy with rfl | hy
   · cases s <;> simp [Sh.sv]
   · exact h3 y hy
theorem resSV_ne {l : List SV} (h : ∀ x ∈ l, x ≠ .no) : resSV l ≠ .no := by
 unfold resSV
 split
 · exact h _ (List.mem_singleton.2 rfl)
 · simp
theorem packs_ne : ∀ (lys : List Ly) (xs : List SV), (∀ x ∈ xs, x ≠ .no) → ∀ x ∈ packs lys xs, x ≠ .no
 | [], _, _, _, hx => by cases hx
 | .one _ :: r, [], _, _, hx => by cases hx
 | .one _ :: r, y :: ys, h, x, hx => by
   rcases List.mem_cons.1 hx with rfl | hx
   · exact h _ (List.mem_cons_self ..)
   · exact packs_ne r ys (fun z hz => h z (List.mem_cons_of_mem _ hz)) x hx
 | .agg l :: r, ys, h, x, hx => by
   rcases List.mem_cons.1 hx with rfl | hx
   · simp
   · exact packs_ne r _ (fun z hz => h z (List.mem_of_mem_drop hz)) x hx
/-- the arguments of a call, known -/
def argsV (e : Env) (l : List Operand) : Option (List Value) :=
 match known (svs e l) with
 | true => some (SV.vs (svs e l))
 | false => none
/-- how a slot that holds a function is called: its number, what stands ahead of the arguments, what was captured; is the number written out? -/
def vcCall (C : Cfg) (e : Env) (fv : SV) (args : List Operand) (ty : TypeId) (w : World) (k : SV → World → Prop) : Prop :=
 match argsV e args, lysOf C.P ty with
 | some vs, some lys =>
   match fv with
   | .val (.func (.func f) first cap) =>
     match C.okf f with
     | true => RetT C.P lys f ⟨first.toList ++ vs ++ cap.toList⟩ w (cur (flats lys) fun xs => k (resSV (packs lys xs)))
     | false => RunN C.P (callFunc f ⟨first.toList ++ vs ++ cap.toList⟩) lys w (cur (flats lys) fun xs => k (resSV (packs lys xs)))
   | .fnv f first cap => Callable C.P f ∧ RetT C.P lys f ⟨first.toList ++ vs ++ cap.toList⟩ w (cur (flats lys) fun xs => k (resSV (packs lys xs)))
   | .opq v => ∃ (f : Nat) (first cap : Array Value), v = .func (.func f) first cap ∧ Callable C.P f ∧ RetT C.P lys f ⟨first.toList ++ vs ++ cap.toList⟩ w (cur (flats lys) fun xs => k (resSV (packs lys xs)))
   | _ => False
 | _, _ => False
/-- an operation that is told by its run alone -/
def vcGen (P : Program) (s : Sem Value) (ty : TypeId) (w : World) (k : SV → World → Prop) : Prop :=
 match lysOf P ty with
 | some lys => RunT P s lys w (cur (flats lys) fun xs => k (resSV (packs lys xs)))
 | none => False
def vcH (C : Cfg) (e : Env) (o : Oper) (w : World) (k : SV → World → Prop) : Prop :=
 match o.op with
 | .alloc t => match zeroT C.P t with
   | some z => k (.adr ⟨w.heap.size, 0, none⟩) (w.alloc (.cells z.cells t))
   | none => False
 | .box t x => match (ev e x).den with
   | some v => k (.adr ⟨w.heap.size, 0, none⟩) (w.alloc (.cells v.cells t))
   | none => False
 | .buildSlice t len parts => vcBuildSlice C.P t len (parts.toList.map fun p => (p.1, ev e p.2)) w k
 | .load t x => vcLoad C.P t (ev e x) w fun s _ => k s w
 | .store t x y => vcStore C.P t (ev e x) (ev e y) w (k (.val undef))
 | .makeMap _ none => k (.val (.map (some w.heap.size))) (w.alloc (.map #[] 0))
 | .makeMap t (some x) => match (ev e x).den with
   | some v => vcGen C.P (Instr.makeMap t (some v)) o.type w k
   | none => False
 | .makeSlice t l c => match (ev e l).den, (ev e c).den with
   | some l, some c => vcGen C.P (Instr.makeSlice t l c) o.type w k
   | _, _ => False
 | .convert src dst x => match (ev e x).den with
   | some v => vcGen C.P (convert src dst v) o.type w k
   | none => False
 | .binOp op t x y _ => match (ev e x).den, (ev e y).den with
   | some u, some v => vcGen C.P (do eqGuard op t x y u v; binOp op t u v) o.type w k
   | _, _ => False
 | .lookup t x i ok => match (ev e x).den, (ev e i).den with
   | some u, some v => vcGen C.P (Instr.lookup t u v ok) o.type w k
   | _, _ => False
 | .mapUpdate t m x y => match (ev e m).den, (ev e x).den, (ev e y).den with
   | some m, some x, some y => RunU C.P (Instr.mapUpdate t m x y) w (k (.val undef))
   | _, _, _ => False
 | .insert t m x y => match (ev e m).den, (ev e x).den, (ev e y).den with
   | some m, some x, some y => RunU C.P (Instr.mapUpdate t m x y) w (k (.val undef))
   | _, _, _ => False
 | .mapEntry t m x => match (ev e m).den, (ev e x).den with
   | some m, some x => ∃ (v : Value) (n : Int) (w' : World), (Instr.mapEntry t m x).run C.P w = .ok (.tuple #[v, .int .i64 n]) w' ∧ k (.tup [.opq v, .val (.int .i64 n)]) w'
   | _, _ => False
 | .entryStore t m x y => match (ev e m).den, (ev e x).den, (ev e y).den with
   | some m, some x, some y => RunU C.P (Instr.entryStore t m x y) w (k (.val undef))
   | _, _, _ => False
 | .range t x => match (ev e x).den with
   | some v => RunT C.P (Instr.range t v) [.one .ptr] w (cur [.ptr] fun xs => k (resSV (packs [.one .ptr] xs)))
   | none => False
 | .next x isString => match (ev e x).den with
   | some v =>
     match nextTys C.P o.type with
     | some (tk, te) =>
       match lyOf C.P tk, lyOf C.P te with
       | some (.one sk), some (.one se) => NextT C.P (Instr.next v isString o.type) sk se w (k (.tup [.lit false])) fun x y => k (.tup [.lit true, sk.sv x, se.sv y])
       | _, _ => False
     | none => NextT C.P (Instr.next v isString o.type) (.int .i64) .bool w (k (.tup [.lit false])) fun x y => k (.tup [.lit true, .val (.int .i64 x), .val (.bool y)])
   | none => False
 | .entry x => match (ev e x).den with
   | some v => ∃ (x : Int) (b : Bool), (Instr.entry v).run C.P w = .ok (.tuple #[.int .i64 x, .bool b]) w ∧ k (.tup [.val (.int .i64 x), .val (.bool b)]) w
   | none => False
 | .makeInterface t x => match (ev e x).den with
   | some v => vcGen C.P (Instr.makeInterface t v) o.type w k
   | none => False
 | .call c =>
   match c.callee with
   | .value f => vcCall C e (ev e f) c.args.toList o.type w k
   | .builtin b =>
     match argsV e c.args.toList with
     | some vs =>
       match b with
       | .append => vcGen C.P (Builtin.append_ c.argTypes o.type ⟨vs⟩) o.type w k
       | .copy => vcGen C.P (Builtin.copy_ c.argTypes o.type ⟨vs⟩) o.type w k
       | .clear => RunT C.P (Builtin.clear_ c.argTypes o.type ⟨vs⟩) [] w (k (.val undef))
       | .delete => RunT C.P (Builtin.delete_ c.argTypes o.type ⟨vs⟩) [] w (k (.val undef))
       | .len => vcGen C.P (Builtin.len_ c.argTypes o.type ⟨vs⟩) o.type w k
       | .min => vcGen C.P (Builtin.min_ c.argTypes o.type ⟨vs⟩) o.type w k
       | .max => vcGen C.P (Builtin.max_ c.argTypes o.type ⟨vs⟩) o.type w k
       | _ => False
     | none => False
   | _ => False
 | _ => False
end Go.Vc
namespace Go.Vc
open Go
/-- what an operation leaves: its value in its slot, and the world -/
def Leaves (a : Act) (o : Oper) (k : SV → World → Prop) (a' : Act) (w' : World) : Prop := ∃ sv v, a' = a.put o.dst v ∧ sv.den = some v ∧ k sv w'
section
variable {P : Program} {a : Act} {o : Oper} {w : World} {k : SV → World → Prop} {Q : Exit → Act → World → Prop}
theorem wp_value {v : Value} {w' : World} {sv : SV} (hr : (execOp a.eval o).run P w = .ok (.value v) w') (hd : sv.den = some v) (hk : k sv w') : o.wp P a w (Leaves a o k) Q := by
 unfold Oper.wp
 rw [hr]
 exact ⟨sv, v, rfl, hd, hk⟩
theorem wp_skip' {w' : World} (hr : (execOp a.eval o).run P w = .ok .skip w') (hk : k (.val undef) w') : o.wp P a w (Leaves a o k) Q := by
 unfold Oper.wp
 rw [hr]
 exact ⟨.val undef, undef, rfl, rfl, hk⟩
theorem wp_enter {f : FuncId} {args : Array Value} {w' : World} {lys : List Ly} (hr : (execOp a.eval o).run P w = .ok (.enter f args) w')
   (hk : RetT P lys f args w' (cur (flats lys) fun xs => k (resSV (packs lys xs)))) : o.wp P a w (Leaves a o k) Q := by
 unfold Oper.wp
 rw [hr]
 refine Calls.mono hk fun e w'' h => ?_
 obtain ⟨xs, ⟨he, hk⟩, _, hn⟩ := exF_cur _ _ _ h
 subst he
 refine ⟨resSV (packs lys xs), _, rfl, ?_, hk⟩
 rw [← resSV_v]
 exact SV.den_ne (resSV_ne (packs_ne lys xs hn))
theorem wp_gen {s : Sem Value} {ty : TypeId} (he : execOp a.eval o = (do pure (.value (← s)))) (h : vcGen P s ty w k) : o.wp P a w (Leaves a o k) Q := by
 unfold vcGen at h
 split at h
 · rename_i lys _
   obtain ⟨xs, ⟨w', hr, hk⟩, _, hn⟩ := exF_cur _ _ _ h
   refine wp_value (v := resV (SV.vs (packs lys xs))) (w' := w') (sv := resSV (packs lys xs)) (by rw [he]; simp [hr]) ?_ hk
   rw [← resSV_v]
   exact SV.den_ne (resSV_ne (packs_ne lys xs hn))
 · exact h.elim
end
theorem seqParts_spec : ∀ (parts : List (Nat × SV)) (n size : Nat) (l : List Value), seqParts n size parts = some l →
   l.length = parts.length * size ∧ (∀ p ∈ parts, p.2 ≠ .no) ∧ ∀ pre post : List Value, pre.length = n * size → post.length = parts.length * size →
     Instr.fill (fun i => some (i * size, size)) ⟨pre ++ post⟩ (parts.map fun p => (p.1, p.2.v)) = some ⟨pre ++ l⟩
 | [], n, size, l, h => by
   simp only [seqParts, Option.some.injEq] at h
   subst h
   refine ⟨by simp, fun p hp => (List.not_mem_nil hp).elim, fun pre post _ h2 => ?_⟩
   have : post = [] := List.eq_nil_of_length_eq_zero (by simpa using h2)
   subst this
   simp [Instr.fill]
 | (i, x) :: r, n, size, l, h => by
   unfold seqParts at h
   split at h
   · rename_i v hi hx
     have hi' := Nat.eq_of_beq_eq_true hi
     subst hi'
     split at h
     · rename_i l' hs hr
       have hs' := Nat.eq_of_beq_eq_true hs
       injection h with h
       subst h
       obtain ⟨h1, h2, h3⟩ := seqParts_spec r (i + 1) size l' hr
       have hv : x.v = v := by cases x <;> simp_all [SV.den]
       refine ⟨by simp [h1, hs', Nat.add_mul, Nat.add_comm], fun p hp => ?_, fun pre post hp hq => ?_⟩
       · rcases List.mem_cons.1 hp with rfl | hp
         · intro hn; simp only at hn; rw [hn] at hx; cases hx
         · exact h2 p hp
       · have hq' : post.length = size + r.length * size := by rw [hq]; simp [Nat.add_mul]; omega
         have hneg : (decide (v.cells.size ≠ size) || decide (i * size + v.cells.size > ({ toList := pre ++ post } : Array Value).size)) = false := by
           have : v.cells.size = size := by simpa using hs'
           simp [this, hp, hq']
         simp only [List.map_cons, Instr.fill, hv, hneg, Bool.false_eq_true, if_false]
         have := h3 (pre ++ v.cells.toList) (post.drop size) (by simp [hp, hs', Nat.add_mul]) (by simp [hq'])
         rw [← List.append_assoc, ← this]
         congr 1
         apply Array.toList_inj.1
         rw [← Array.foldl_toList, Array.toList_zipIdx]
         have hvs : v.cells.size = size := by simpa using hs'
         have hle : i * size + 0 + v.cells.toList.length ≤ (⟨pre ++ post⟩ : Array Value).size := by
           simp [hp, hq', hvs]
         have hz := zipIdx_foldl v.cells.toList (i * size) 0 ⟨pre ++ post⟩ hle
         simp only [Nat.add_zero] at hz
         rw [hz]
         unfold over
         have e1 : (pre ++ post).take (i * size) = pre := by rw [← hp, List.take_left]
         have e2 : (pre ++ post).drop (i * size + v.cells.toList.length) = post.drop size := by
           rw [← hp, hs', ← List.drop_drop, List.drop_left]
         simp only [e1, e2]
     · cases h
   · cases h
theorem vcBuildSlice_sound {P : Program} {t : TypeId} {len : Nat} {parts : List (Nat × SV)} {w : World} {k : SV → World → Prop} (h : vcBuildSlice P t len parts w k) :
   (∀ p ∈ parts, p.2 ≠ .no) ∧ ∃ sv v w', k sv w' ∧ sv.den = some v ∧ (Instr.buildSlice t len ⟨parts.map fun p => (p.1, p.2.v)⟩).run P w = .ok v w' := by
 unfold vcBuildSlice at h
 split at h
 · rename_i e hu
   split at h
   · rename_i sz z hsz hz
     split at h
     · rename_i l h1 h2 h3 h4 h5
       obtain ⟨s1, s2, s3⟩ := seqParts_spec _ _ _ _ h5
       refine ⟨s2, _, _, _, h, rfl, ?_⟩
       have e1 := Nat.eq_of_beq_eq_true h1
       have e2 := Nat.eq_of_beq_eq_true h2
       have e3 := Nat.le_of_ble_eq_true h3
       have e4 := Nat.le_of_ble_eq_true h4
       have hn : ¬ len * sz > 2 ^ 24 := by omega
       have hfill : ∀ zs : Array Value, zs.size = len * sz → Instr.fill (fun i => some (i * sz, sz)) zs (parts.map fun p => (p.1, p.2.v)) = some ⟨l⟩ := by
         intro zs hzs
         have := s3 [] zs.toList (by simp) (by rw [e1]; simpa using hzs)
         simpa using this
       simp only [Instr.buildSlice, Sem.run_bind, run_underlying hu, Result.andThen_ok, run_sizeT hsz, hn, if_false]
       by_cases h0 : len * sz = 0
       · rw [if_pos h0]
         simp only [Sem.run_bind, Sem.run_pure, Result.andThen_ok]
         rw [hfill _ (by simp)]
         simp [newRow, SV.v]
       · rw [if_neg h0]
         simp only [Sem.run_bind, run_zeroT hz, Sem.run_pure, Result.andThen_ok]
         rw [hfill _ (by simp)]
         simp [newRow, SV.v]
     · exact h.elim
   · exact h.elim
 · exact h.elim
theorem parts_map {n : Nat} {e : Env} {a : Act} (hf : Fits n e a) (parts : Array (Nat × Operand)) (h : ∀ p ∈ parts.toList.map (fun p => (p.1, ev e p.2)), p.2 ≠ .no) :
   parts.map (fun p => (p.1, a.eval p.2)) = ⟨(parts.toList.map fun p => (p.1, ev e p.2)).map fun p => (p.1, p.2.v)⟩ := by
 apply Array.toList_inj.1
 simp only [Array.toList_map, List.map_map]
 refine List.map_congr_left fun p hp => ?_
 simp only [Function.comp_apply, Prod.mk.injEq, true_and]
 exact hf.ev_v rfl (h (p.1, ev e p.2) (List.mem_map.2 ⟨p, hp, rfl⟩))
theorem den_v {x : SV} {v : Value} (h : x.den = some v) : x ≠ .no ∧ x.v = v := by
 cases x <;> simp_all [SV.den]
theorem Fits.ev_den {n : Nat} {e : Env} {a : Act} (hf : Fits n e a) {x : Operand} {v : Value} (h : (Vc.ev e x).den = some v) : a.eval x = v := hf.ev h
theorem argsV_spec {n : Nat} {e : Env} {a : Act} (hf : Fits n e a) {l : List Operand} {vs : List Value} (h : argsV e l = some vs) : l.map a.eval = vs := by
 unfold argsV at h
 split at h
 · rename_i hk; injection h with h; rw [← h]; exact known_vs hf l hk
 · cases h
theorem args_eq {n : Nat} {e : Env} {a : Act} (hf : Fits n e a) {l : Array Operand} {vs : List Value} (h : argsV e l.toList = some vs) : l.map a.eval = ⟨vs⟩ := by
 apply Array.toList_inj.1
 simpa using argsV_spec hf h
theorem run_callFunc {P : Program} {f : Nat} (h : Callable P f) (args : Array Value) (w : World) : (callFunc f args).run P w = .ok (.enter f args) w := by
 obtain ⟨fn, h1, h2, h3⟩ := h
 simp only [callFunc, Sem.run_bind, run_program, Result.andThen_ok, h1]
 rw [h3, h2]
 rfl
theorem vcCall_sound {C : Cfg} (hC : CfgOk C) {n : Nat} {e : Env} {a : Act} (hf : Fits n e a) {dst : Option Tmp} {c : Call} {f : Operand} {ty : TypeId} {pos : String} {after : Array Edge} {guard : Option (Nat × Bool)} {w : World} {k : SV → World → Prop}
   {Q : Exit → Act → World → Prop} (hc : c.callee = .value f) (h : vcCall C e (ev e f) c.args.toList ty w k) :
   Oper.wp C.P ⟨dst, .call c, ty, pos, after, guard⟩ a w (Leaves a ⟨dst, .call c, ty, pos, after, guard⟩ k) Q := by
 unfold vcCall at h
 split at h
 · rename_i vs lys hvs hlys
   have hargs := args_eq hf hvs
   split at h
   · rename_i g first cap hfv
     have hf' : a.eval f = .func (.func g) first cap := hf.ev_v hfv (by simp)
     have hexec : execOp a.eval ⟨dst, .call c, ty, pos, after, guard⟩ = callFunc g ⟨first.toList ++ vs ++ cap.toList⟩ := by
       simp only [execOp, resolve, hc, hf', hargs, Deferred.ofValue, pure_bind, invoke]
       congr 1
       apply Array.toList_inj.1
       simp
     split at h
     · rename_i hok
       exact wp_enter (by rw [hexec]; exact run_callFunc (hC.okf _ hok) _ _) h
     · obtain ⟨xs, ⟨w', hr, hk⟩, _, hn⟩ := exF_cur _ _ _ h
       refine wp_value (v := resV (SV.vs (packs lys xs))) (w' := w') (sv := resSV (packs lys xs)) (by rw [hexec]; exact hr) ?_ hk
       rw [← resSV_v]
       exact SV.den_ne (resSV_ne (packs_ne lys xs hn))
   · rename_i g first cap hfv
     have hf' : a.eval f = .func (.func g) first cap := hf.ev_v hfv (by simp)
     have hexec : execOp a.eval ⟨dst, .call c, ty, pos, after, guard⟩ = callFunc g ⟨first.toList ++ vs ++ cap.toList⟩ := by
       simp only [execOp, resolve, hc, hf', hargs, Deferred.ofValue, pure_bind, invoke]
       congr 1
       apply Array.toList_inj.1
       simp
     exact wp_enter (by rw [hexec]; exact run_callFunc h.1 _ _) h.2
   · rename_i v hfv
     obtain ⟨g, first, cap, rfl, h1, h2⟩ := h
     have hf' : a.eval f = .func (.func g) first cap := hf.ev_v hfv (by simp)
     have hexec : execOp a.eval ⟨dst, .call c, ty, pos, after, guard⟩ = callFunc g ⟨first.toList ++ vs ++ cap.toList⟩ := by
       simp only [execOp, resolve, hc, hf', hargs, Deferred.ofValue, pure_bind, invoke]
       congr 1
       apply Array.toList_inj.1
       simp
     exact wp_enter (by rw [hexec]; exact run_callFunc h1 _ _) h2
   · exact h.elim
 · exact h.elim
theorem vcH_sound {C : Cfg} (hC : CfgOk C) {n : Nat} {e : Env} {a : Act} (hf : Fits n e a) {o : Oper} {w : World} {k : SV → World → Prop} {Q : Exit → Act → World → Prop} (h : vcH C e o w k) :
   o.wp C.P a w (Leaves a o k) Q := by
 obtain ⟨dst, op, type, pos, after, guard⟩ := o
 cases op <;> simp only [vcH] at h
 case alloc t =>
   split at h
   · rename_i z hz
     exact wp_value (by simp [execOp, Instr.alloc, run_zeroT hz, newVar, newRow]; rfl) rfl h
   · exact h.elim
 case box t x =>
   split at h
   · rename_i v hv
     exact wp_value (by simp [execOp, Instr.box, newVar, newRow, hf.ev_den hv]; rfl) rfl h
   · exact h.elim
 case buildSlice t len parts =>
   obtain ⟨h1, sv, v, w', hk, hd, hr⟩ := vcBuildSlice_sound h
   exact wp_value (by simp only [execOp]; rw [parts_map hf parts h1]; simp only [Sem.run_bind, hr, Result.andThen_ok]; rfl) hd hk
 case load t x =>
   obtain ⟨sv, v, fs, hk, hd, hfs, hr⟩ := vcLoad_sound h
   have hx : a.eval x = (ev e x).v := hf.ev_v rfl (fun hn => by rw [hn] at h; unfold vcLoad at h; split at h <;> simp_all)
   exact wp_value (by simp [execOp, hx, hr w hfs]) hd hk
 case store t x y =>
   obtain ⟨h1, h2, w', hk, hr⟩ := vcStore_sound h
   exact wp_skip' (by simp [execOp, hf.ev_v (x := x) rfl h1, hf.ev_v (x := y) rfl h2, hr]) hk
 case makeMap t r =>
   cases r with
   | none => exact wp_value (by simp [execOp, Instr.makeMap]; rfl) rfl h
   | some x =>
     simp only at h
     split at h
     · rename_i v hv
       exact wp_gen (by simp [execOp, hf.ev_den hv]) h
     · exact h.elim
 case makeSlice t l c =>
   split at h
   · rename_i hl hc
     exact wp_gen (by simp [execOp, hf.ev_den hl, hf.ev_den hc]) h
   · exact h.elim
 case convert src dst x =>
   split at h
   · rename_i hv
     exact wp_gen (by simp [execOp, hf.ev_den hv]) h
   · exact h.elim
 case binOp op t x y ty =>
   split at h
   · rename_i hu hv
     exact wp_gen (by
       have hu' := hf.ev_den hu
       have hv' := hf.ev_den hv
       simp only [execOp, hu', hv']) h
   · exact h.elim
 case lookup t x i ok =>
   split at h
   · rename_i hu hv
     exact wp_gen (by simp [execOp, hf.ev_den hu, hf.ev_den hv]) h
   · exact h.elim
 case mapUpdate t m x y =>
   split at h
   · rename_i hm hx hy
     obtain ⟨w', hr, hk⟩ := h
     exact wp_skip' (by simp [execOp, hf.ev_den hm, hf.ev_den hx, hf.ev_den hy, hr]) hk
   · exact h.elim
 case insert t m x y =>
   split at h
   · rename_i hm hx hy
     obtain ⟨w', hr, hk⟩ := h
     exact wp_skip' (by simp [execOp, hf.ev_den hm, hf.ev_den hx, hf.ev_den hy, hr]) hk
   · exact h.elim
 case mapEntry t m x =>
   split at h
   · rename_i hm hx
     obtain ⟨v, n, w', hr, hk⟩ := h
     refine wp_value (by simp [execOp, hf.ev_den hm, hf.ev_den hx, hr]; rfl) ?_ hk
     simp [SV.den, SV.v, SV.vs]
   · exact h.elim
 case entryStore t m x y =>
   split at h
   · rename_i hm hx hy
     obtain ⟨w', hr, hk⟩ := h
     exact wp_skip' (by simp [execOp, hf.ev_den hm, hf.ev_den hx, hf.ev_den hy, hr]) hk
   · exact h.elim
 case range t x =>
   split at h
   · rename_i hv
     obtain ⟨xs, ⟨w', hr, hk⟩, _, hn⟩ := exF_cur _ _ _ h
     refine wp_value (v := resV (SV.vs (packs [.one .ptr] xs))) (w' := w') (sv := resSV (packs [.one .ptr] xs)) (by simp [execOp, hf.ev_den hv, hr]) ?_ hk
     rw [← resSV_v]
     exact SV.den_ne (resSV_ne (packs_ne _ xs hn))
   · exact h.elim
 case next x isString =>
   split at h
   · rename_i v hv
     split at h
     · rename_i tk te _
       split at h
       · rename_i sk se _ _
         obtain ⟨u, w', hr, hk⟩ := h
         rcases hk with ⟨rfl, hk⟩ | ⟨x, y, rfl, hk⟩
         · exact wp_value (by simp [execOp, hf.ev_den hv, hr]; rfl) rfl hk
         · refine wp_value (by simp [execOp, hf.ev_den hv, hr]; rfl) ?_ hk
           simp [SV.den, SV.v, SV.vs, Sh.sv_v]
       · exact h.elim
     · obtain ⟨u, w', hr, hk⟩ := h
       rcases hk with ⟨rfl, hk⟩ | ⟨x, y, rfl, hk⟩
       · exact wp_value (by simp [execOp, hf.ev_den hv, hr]; rfl) rfl hk
       · refine wp_value (by simp [execOp, hf.ev_den hv, hr]; rfl) ?_ hk
         simp [SV.den, SV.v, SV.vs, Sh.mk]
   · exact h.elim
 case entry x =>
   split at h
   · rename_i v hv
     obtain ⟨x, b, hr, hk⟩ := h
     refine wp_value (by simp [execOp, hf.ev_den hv, hr]; rfl) ?_ hk
     simp [SV.den, SV.v, SV.vs]
   · exact h.elim
 case makeInterface t x =>
   split at h
   · rename_i hv
     exact wp_gen (by simp [execOp, hf.ev_den hv]) h
   · exact h.elim
 case call c =>
   split at h
   · rename_i f hc
     exact vcCall_sound hC hf hc h
   · rename_i b hc
     split at h
     · rename_i vs hvs
       have hargs := args_eq hf hvs
       have hx : ∀ (s : Sem Value), builtin b c.argTypes type (c.args.map fun | .const _ => true | _ => false) ⟨vs⟩ = (do pure (.value (← s))) →
           execOp a.eval ⟨dst, .call c, type, pos, after, guard⟩ = (do pure (.value (← s))) := fun s hs => by
         simp only [execOp, resolve, hc, hargs, pure_bind, invoke]
         exact hs
       split at h
       · exact wp_gen (hx _ rfl) h
       · exact wp_gen (hx _ rfl) h
       · obtain ⟨w', hr, hk⟩ := h
         exact wp_value (v := undef) (by rw [hx _ rfl]; simp [hr, resV, SV.vs, packs, undef]) rfl hk
       · obtain ⟨w', hr, hk⟩ := h
         exact wp_value (v := undef) (by rw [hx _ rfl]; simp [hr, resV, SV.vs, packs, undef]) rfl hk
       · exact wp_gen (hx _ rfl) h
       · exact wp_gen (hx _ rfl) h
       · exact wp_gen (hx _ rfl) h
       · exact h.elim
     · exact h.elim
   · exact h.elim
 all_goals exact h.elim
end Go.Vc
namespace Go.Vc
open Go
/-! ### Regions that draw their order: a condition on the world that goes by what has come up -/
section
variable {P : Program} {ops : Array Oper} {Q : Exit → Act → World → Prop} {md : Region.Mode}
/-- what has come up is closed under what it waits for -/
def Closed (md : Region.Mode) (ops : Array Oper) (L : Array Bool) : Prop :=
 ∀ q oq, ops[q]? = some oq → L.getD q false = true → ∀ e ∈ oq.after, Region.binds md e = true → L.getD e.on false = true
theorem Closed.set {L : Array Bool} (h : Closed md ops L) {j : Nat} (hj : j ∈ Region.ready md ops L) : Closed md ops (L.setIfInBounds j true) := by
 obtain ⟨_, o, ho, hall⟩ := mem_ready.1 hj
 intro q oq hq hl e he hb
 by_cases hqj : j = q
 · subst hqj
   rw [ho] at hq
   injection hq with hq
   subst hq
   exact getD_set_true (hall e he hb)
 · rw [getD_set_ne false hqj] at hl
   exact getD_set_true (h q oq hq hl e he hb)
def wpAnyS (P : Program) (md : Region.Mode) (ops : Array Oper) (Q : Exit → Act → World → Prop) (S : Array Bool → World → Prop) : Nat → Array Bool → Act → World → Prop
 | 0, listed, a, w => Region.ready md ops listed = [] ∧ Q .normal a w
 | fuel + 1, listed, a, w =>
   (Region.ready md ops listed = [] → Q .normal a w) ∧
   ∀ i ∈ Region.ready md ops listed, wpOp P ops Q i (fun a' w' => S (listed.setIfInBounds i true) w' ∧ wpAnyS P md ops Q S fuel (listed.setIfInBounds i true) a' w') a w
theorem wpAny_of_S {S : Array Bool → World → Prop} : ∀ (fuel : Nat) (listed : Array Bool) (a : Act) (w : World), wpAnyS P md ops Q S fuel listed a w → wpAny P md ops Q fuel listed a w
 | 0, _, _, _, h => h
 | fuel + 1, _, _, _, h => ⟨h.1, fun i hi => wpOp_mono (fun a' w' h' => wpAny_of_S fuel _ a' w' h'.2) (h.2 i hi)⟩
theorem wpAnyS_mono {S S' : Array Bool → World → Prop} {i : Nat} (hS : ∀ L w, L.getD i false = true → S L w → S' L w) :
   ∀ (fuel : Nat) (listed : Array Bool) (a : Act) (w : World), listed.getD i false = true → wpAnyS P md ops Q S fuel listed a w → wpAnyS P md ops Q S' fuel listed a w
 | 0, _, _, _, _, h => h
 | fuel + 1, _, _, _, hl, h => ⟨h.1, fun j hj => wpOp_mono (fun a' w' h' => ⟨hS _ _ (getD_set_true hl) h'.1, wpAnyS_mono hS fuel _ a' w' (getD_set_true hl) h'.2⟩) (h.2 j hj)⟩
theorem wpAnyS_weaken {S S' : Array Bool → World → Prop} (hS : ∀ L w, S L w → S' L w) :
   ∀ (fuel : Nat) (listed : Array Bool) (a : Act) (w : World), wpAnyS P md ops Q S fuel listed a w → wpAnyS P md ops Q S' fuel listed a w
 | 0, _, _, _, h => h
 | fuel + 1, _, _, _, h => ⟨h.1, fun j hj => wpOp_mono (fun a' w' h' => ⟨hS _ _ h'.1, wpAnyS_weaken hS fuel _ a' w' h'.2⟩) (h.2 j hj)⟩
theorem wpAnyS_first {S : Array Bool → World → Prop} {i : Nat} {oi : Oper} {v : Value} (hi : ops[i]? = some oi) (hsel : ∀ (j : Nat) (o : Oper) cs b, ops[j]? = some o → o.op ≠ .select cs b)
   (hQ : ∀ c a w, Q (.panic c) (a.put oi.dst v) w → Q (.panic c) a w) (hSi : ∀ L w, S (L.setIfInBounds i true) w ↔ S L w) :
   ∀ (fuel : Nat) (listed : Array Bool) (a : Act) (w : World),
     (∀ j oj, ops[j]? = some oj → j ≠ i → listed.getD j true = false → (∀ e ∈ oj.after, Region.binds md e = true → e.on ≠ i) → oi.apart ops oj = true) →
     i ∈ Region.ready md ops listed → Closed md ops listed → YieldsIf P ops (fun w => ∃ L, Closed md ops L ∧ L.getD i true = false ∧ S L w) oi v a → S listed w →
     wpAnyS P md ops Q S fuel (listed.setIfInBounds i true) (a.put oi.dst v) w → wpAnyS P md ops Q S (fuel + 1) listed a w := by
 intro fuel
 induction fuel with
 | zero =>
   intro listed a w _ hr hcl hy hS H
   refine ⟨fun h => (by rw [h] at hr; cases hr), fun j hj => ?_⟩
   by_cases hji : j = i
   · subst hji; exact hy.wpOp hi ⟨listed, hcl, (mem_ready.1 hr).1, hS⟩ ⟨(hSi _ _).2 hS, H⟩
   · have := ready_mono hj hji
     rw [H.1] at this
     cases this
 | succ fuel ih =>
   intro listed a w hfree hr hcl hy hS H
   refine ⟨fun h => (by rw [h] at hr; cases hr), fun j hj => ?_⟩
   by_cases hji : j = i
   · subst hji; exact hy.wpOp hi ⟨listed, hcl, (mem_ready.1 hr).1, hS⟩ ⟨(hSi _ _).2 hS, H⟩
   · have h1 := H.2 j (ready_mono hj hji)
     obtain ⟨hjun, oj, hoj, hall⟩ := mem_ready.1 hj
     have hnot : ∀ e ∈ oj.after, Region.binds md e = true → e.on ≠ i := fun e he hb heq => by
       have h1 := hall e he hb
       have h0 := (mem_ready.1 hr).1
       rw [heq] at h1
       rcases Nat.lt_or_ge i listed.size with h' | h'
       · simp [h'] at h0 h1; rw [h0] at h1; cases h1
       · simp [Array.getElem?_eq_none h'] at h1
     have h2 := wpOp_putIf hoj (hfree j oj hoj hji hjun hnot) (fun cs b => hsel i oi cs b hi) (fun cs b => hsel j oj cs b hoj) hQ hy h1
     have hfree' : ∀ k ok, ops[k]? = some ok → k ≠ i → (listed.setIfInBounds j true).getD k true = false →
         (∀ e ∈ ok.after, Region.binds md e = true → e.on ≠ i) → oi.apart ops ok = true := fun k ok hk hki hun hno => by
       refine hfree k ok hk hki ?_ hno
       by_cases hjk : j = k
       · subst hjk; exact hjun
       · rw [getD_set_ne true hjk] at hun; exact hun
     have hcomm := Array.setIfInBounds_comm (xs := listed) true true hji
     refine wpOp_mono (fun a' w' h3 => ?_) h2
     have hS' : S (listed.setIfInBounds j true) w' := by
       have := h3.2.1
       rw [← hcomm] at this
       exact (hSi _ _).1 this
     refine ⟨hS', ih (listed.setIfInBounds j true) a' w' hfree' (ready_mono hr (Ne.symm hji)) (hcl.set hj) h3.1 hS' ?_⟩
     rw [hcomm]
     exact h3.2.2
end
end Go.Vc
namespace Go.Vc
open Go
def isP (P : Program) : Op → Bool
 | .move _ | .assign _ | .pick .. | .nilCheck _ | .unOp .. | .fieldAddr .. | .indexAddr .. | .index .. | .slice .. | .field .. | .build .. | .extract .. | .makeFunc .. => true
 | .binOp _ t _ y _ =>
   match P.underlying t with
   | some (.int _) | some .string | some .bool | some (.struct _) | some (.array ..) => true
   | _ => isNilConst y
 | .convert src dst _ =>
   match P.underlying src, P.underlying dst with
   | some _, some (.int _) => true
   | some .string, some .string => true
   | _, _ => false
 | .call c =>
   match c.callee, c.argTypes.toList with
   | .builtin .len, t :: _ => match P.underlying t with | some .string | some (.slice _) | some (.array ..) => true | _ => false
   | .builtin .cap, t :: _ => match P.underlying t with | some (.slice _) => true | _ => false
   | .builtin .min, [t, _] => match P.underlying t with | some (.int _) => true | _ => false
   | .builtin .max, [t, _] => match P.underlying t with | some (.int _) => true | _ => false
   | _, _ => false
 | _ => false
def isL (P : Program) : Op → Bool
 | .load .. => true
 | .convert src dst _ =>
   match P.underlying src, P.underlying dst with
   | some (.slice e), some .string => match P.underlying e with | some (.int .u8) => true | _ => false
   | _, _ => false
 | _ => false
/-- the cells of a text's bytes -/
def cvCells (a : Option Addr) (s : ByteArray) : List (Addr × Value) :=
 match a with
 | none => []
 | some a => (List.range s.size).map fun j => (a.add j, .int .u8 ((s.data.toList.getD j 0).toNat : Int))
/-- the bytes of a slice are those of a text -/
def CvAt (a : Option Addr) (len : Nat) (s : ByteArray) (w : World) : Prop := s.size = len ∧ (a.isNone = true → len = 0) ∧ Facts (cvCells a s) w
def vcCv (x : SV) (w : World) (k : SV → List (Addr × Value) → Prop) : Prop :=
 match x with
 | .val (.slice a len _) => ∃ s : ByteArray, CvAt a len s w ∧ k (Sh.str.sv s) (cvCells a s)
 | _ => False
theorem run_cv {P : Program} {src dst e : TypeId} (hs : P.underlying src = some (.slice e)) (he : P.underlying e = some (.int .u8)) (hd : P.underlying dst = some .string) {a : Option Addr} {len cap : Nat} {s : ByteArray} {w : World}
   (h1 : s.size = len) (h2 : a.isNone = true → len = 0) (hf : Facts (cvCells a s) w) : (convert src dst (.slice a len cap)).run P w = .ok (.string s) w := by
 have hb : (⟨s.data.toList.toArray⟩ : ByteArray) = s := by cases s; rfl
 have hl : s.data.toList.length = s.size := Array.length_toList
 cases a with
 | none =>
   have h0 := h2 rfl
   subst h0
   rw [run_convert_bytes_string w src dst e none 0 cap hs he hd]
   have : s = ByteArray.empty := by
     have h3 : s.data.toList = [] := List.eq_nil_of_length_eq_zero (by rw [hl, h1])
     rw [← hb, h3]; rfl
   rw [this]
   simp [Conv.bytesToString]
   try rfl
 | some a =>
   have := run_convert_bytes_back (P := P) w src dst e a cap s.data.toList hs he hd (fun j hj => by
     have hj' : j < s.size := by rw [← hl]; exact hj
     have h3 := hf (a.add j, .int .u8 ((s.data.toList.getD j 0).toNat : Int)) (List.mem_map.2 ⟨j, List.mem_range.2 hj', rfl⟩)
     simp only at h3
     rw [h3]
     have : s.data.toList.getD j 0 = s.data.toList[j] := by rw [List.getD_eq_getElem?_getD, List.getElem?_eq_getElem hj]; rfl
     rw [this])
   rw [hb, hl, h1] at this
   exact this
theorem vcCv_sound {P : Program} {src dst e : TypeId} (hs : P.underlying src = some (.slice e)) (he : P.underlying e = some (.int .u8)) (hd : P.underlying dst = some .string) {x : SV} {w : World} {k : SV → List (Addr × Value) → Prop} (h : vcCv x w k) :
   ∃ sv v fs, k sv fs ∧ sv.den = some v ∧ Facts fs w ∧ ∀ w', Facts fs w' → (convert src dst x.v).run P w' = .ok v w' := by
 unfold vcCv at h
 split at h
 · obtain ⟨s, ⟨h1, h2, h3⟩, hk⟩ := h
   exact ⟨_, _, _, hk, Sh.str.sv_den s, h3, fun w' hf => run_cv hs he hd h1 h2 hf⟩
 · exact h.elim
theorem isL_convert {P : Program} {src dst : TypeId} {x : Operand} (h : isL P (.convert src dst x) = true) : ∃ e, P.underlying src = some (.slice e) ∧ P.underlying e = some (.int .u8) ∧ P.underlying dst = some .string := by
 simp only [isL] at h
 split at h
 · rename_i e h1 h2
   split at h
   · rename_i h3
     exact ⟨e, h1, h3, h2⟩
   · cases h
 · cases h
/-- is the operation carried out? A truth value that is not known is parted on. -/
def wantV (ops : Array Oper) (o : Oper) (e : Env) (exec skip : Env → Prop) : Prop :=
 match o.guard with
 | none => exec e
 | some (j, want) =>
   match (ops[j]?).bind (·.dst) with
   | none => skip e
   | some t =>
     match e t, want with
     | .lit true, true => exec e
     | .lit false, true => skip e
     | .lit true, false => skip e
     | .lit false, false => exec e
     | .val (.bool g), true => (g = true → exec (e.put t (.lit true))) ∧ (g = false → skip (e.put t (.lit false)))
     | .val (.bool g), false => (g = true → skip (e.put t (.lit true))) ∧ (g = false → exec (e.put t (.lit false)))
     | .no, _ => False
     | .opq _, _ => False
     | _, _ => skip e
def putD (n : Nat) (dst : Option Tmp) (s : SV) (e : Env) (k : Env → Prop) : Prop :=
 match dst with
 | none => k e
 | some d => match Nat.blt d n with | true => k (e.put d s) | false => False
def vcList (C : Cfg) (n : Nat) (ops : Array Oper) (k : Env → World → Prop) : List Oper → Env → World → Prop
 | [], e, w => k e w
 | o :: r, e, w =>
   wantV ops o e
     (fun e => match isP C.P o.op with
       | true => vcP C e o.op fun s => putD n o.dst s e fun e' => vcList C n ops k r e' w
       | false => vcH C e o w fun s w' => putD n o.dst s e fun e' => vcList C n ops k r e' w')
     (fun e => putD n o.dst (.val undef) e fun e' => vcList C n ops k r e' w)
/-- what an earlier load met is there still -/
def stab1 (w : World) : List (Addr × Value) → Prop → Prop
 | [], p => p
 | (a, v) :: r, p => w.cell? a = some v ∧ stab1 w r p
def afterB (o : Oper) (l : Nat) : Bool := o.after.toList.any fun e => Region.binds .any e && Nat.beq e.on l
def stab (o : Oper) (w : World) : List (Nat × List (Addr × Value)) → Prop → Prop
 | [], p => p
 | (l, cs) :: r, p => match afterB o l with | true => stab o w r p | false => stab1 w cs (stab o w r p)
def dropF (o : Oper) : List (Nat × List (Addr × Value)) → List (Nat × List (Addr × Value))
 | [] => []
 | (l, cs) :: r => match afterB o l with | true => dropF o r | false => (l, cs) :: dropF o r
def vcDraw (C : Cfg) (n : Nat) (ops : Array Oper) (k : Env → World → Prop) : List Nat → Env → World → List (Nat × List (Addr × Value)) → Prop
 | [], e, w, _ => k e w
 | i :: r, e, w, fs =>
   match ops[i]? with
   | none => False
   | some o =>
     match isP C.P o.op, isL C.P o.op with
     | true, _ => wantV ops o e (fun e => vcP C e o.op fun s => putD n o.dst s e fun e' => vcDraw C n ops k r e' w fs)
         (fun e => putD n o.dst (.val undef) e fun e' => vcDraw C n ops k r e' w fs)
     | false, true => wantV ops o e (fun e => match o.op with
           | .load t x => vcLoad C.P t (ev e x) w fun s cs => putD n o.dst s e fun e' => vcDraw C n ops k r e' w ((i, cs) :: fs)
           | .convert _ _ x => vcCv (ev e x) w fun s cs => putD n o.dst s e fun e' => vcDraw C n ops k r e' w ((i, cs) :: fs)
           | _ => False)
         (fun e => putD n o.dst (.val undef) e fun e' => vcDraw C n ops k r e' w fs)
     | false, false => wantV ops o e (fun e => vcH C e o w fun s w' => stab o w' fs (putD n o.dst s e fun e' => vcDraw C n ops k r e' w' (dropF o fs)))
         (fun e => stab o w fs (putD n o.dst (.val undef) e fun e' => vcDraw C n ops k r e' w (dropF o fs)))
/-- the order is one in which what only reads is taken as early as may be -/
def drawOk (P : Program) (ops : Array Oper) : List Nat → Array Bool → Bool
 | [], L => (Region.ready .any ops L).isEmpty
 | i :: r, L =>
   (match ops[i]? with
    | none => false
    | some o =>
      match isP P o.op || isL P o.op with
      | true => (Region.ready .any ops L).contains i && Region.free .any ops L i
      | false => (Region.ready .any ops L) == [i]) && drawOk P ops r (L.setIfInBounds i true)
def dsts (ops : Array Oper) : List Nat := ops.toList.filterMap (·.dst)
/-- outside these slots nothing has turned -/
def Agree (ds : List Nat) (e e' : Env) : Prop := ∀ t, t ∉ ds → e' t = e t
theorem Agree.refl (ds : List Nat) (e : Env) : Agree ds e e := fun _ _ => rfl
theorem Agree.trans {ds : List Nat} {e1 e2 e3 : Env} (h : Agree ds e1 e2) (h' : Agree ds e2 e3) : Agree ds e1 e3 := fun t ht => (h' t ht).trans (h t ht)
theorem Agree.put {ds : List Nat} {e : Env} {d : Nat} (hd : d ∈ ds) (s : SV) : Agree ds e (e.put d s) := fun t ht => by
 unfold Env.put
 cases hb : Nat.beq t d with
 | true => exact absurd (Nat.eq_of_beq_eq_true hb ▸ hd) ht
 | false => rfl
theorem Agree.more {ds ds' : List Nat} {e e' : Env} (h : Agree ds e e') (hs : ∀ t, t ∈ ds → t ∈ ds') : Agree ds' e e' := fun t ht => h t (fun hm => ht (hs t hm))
/-- the post of a region: a state that an environment fits -/
def Rq (n : Nat) (ds : List Nat) (e0 : Env) (k : Env → World → Prop) : Exit → Act → World → Prop
 | .normal, a, w => ∃ e, Fits n e a ∧ Agree ds e0 e ∧ k e w
 | _, _, _ => False
section
variable {C : Cfg} {n : Nat} {ops : Array Oper} {k : Env → World → Prop}
theorem yielded_tmp {tmps : Array Value} {j t : Nat} (h : (ops[j]?).bind (·.dst) = some t) (ht : t < tmps.size) :
   yielded ops tmps j = match tmps.getD t undef with | .bool b => some b | _ => none := by
 unfold yielded
 rw [h]
 have : tmps[t]? = some (tmps.getD t undef) := by simp [ht]
 simp only [Option.bind_some, this]
 cases tmps.getD t undef <;> rfl
theorem dst_mem {j t : Nat} (h : (ops[j]?).bind (·.dst) = some t) : t ∈ dsts ops := by
 cases ho : ops[j]? with
 | none => rw [ho] at h; cases h
 | some o =>
   rw [ho] at h
   exact List.mem_filterMap.2 ⟨o, by simpa using Array.mem_of_getElem? ho, h⟩
theorem wantV_sound {o : Oper} {e : Env} {a : Act} (hf : Fits n e a) {exec skip : Env → Prop} (h : wantV ops o e exec skip) :
   ∃ e', Fits n e' a ∧ Agree (dsts ops) e e' ∧ ((Region.wanted o (yielded ops a.tmps) = true ∧ exec e') ∨ (Region.wanted o (yielded ops a.tmps) = false ∧ skip e')) := by
 unfold wantV at h
 split at h
 · rename_i hg; exact ⟨e, hf, .refl _ _, .inl ⟨by simp [Region.wanted, hg], h⟩⟩
 · rename_i j want hg
   split at h
   · rename_i hd
     refine ⟨e, hf, .refl _ _, .inr ⟨?_, h⟩⟩
     simp [Region.wanted, hg, yielded, hd]
   · rename_i t hd
     have hw : ∀ s, e t = s → s ≠ .no → Region.wanted o (yielded ops a.tmps) = ((match s.v with | .bool b => some b | _ => none) == some want) := by
       intro s hs hn
       have := hf.tmp t s.v (by rw [hs]; exact SV.den_ne hn)
       simp only [Region.wanted, hg]
       rw [yielded_tmp hd (by rw [hf.size]; exact this.1), this.2]
     split at h
     · rename_i he; exact ⟨e, hf, .refl _ _, .inl ⟨by rw [hw _ he (by simp)]; rfl, h⟩⟩
     · rename_i he; exact ⟨e, hf, .refl _ _, .inr ⟨by rw [hw _ he (by simp)]; rfl, h⟩⟩
     · rename_i he; exact ⟨e, hf, .refl _ _, .inr ⟨by rw [hw _ he (by simp)]; rfl, h⟩⟩
     · rename_i he; exact ⟨e, hf, .refl _ _, .inl ⟨by rw [hw _ he (by simp)]; rfl, h⟩⟩
     · rename_i g he
       cases g
       · exact ⟨_, hf.lit he, .put (dst_mem hd) _, .inr ⟨by rw [hw _ he (by simp)]; rfl, h.2 rfl⟩⟩
       · exact ⟨_, hf.lit he, .put (dst_mem hd) _, .inl ⟨by rw [hw _ he (by simp)]; rfl, h.1 rfl⟩⟩
     · rename_i g he
       cases g
       · exact ⟨_, hf.lit he, .put (dst_mem hd) _, .inl ⟨by rw [hw _ he (by simp)]; rfl, h.2 rfl⟩⟩
       · exact ⟨_, hf.lit he, .put (dst_mem hd) _, .inr ⟨by rw [hw _ he (by simp)]; rfl, h.1 rfl⟩⟩
     · exact h.elim
     · exact h.elim
     · rename_i h1 h2 h3 h4 h5 h6 h7 h8
       refine ⟨e, hf, .refl _ _, .inr ⟨?_, h⟩⟩
       cases hs : e t with
       | no => exact absurd hs h1
       | opq v => exact absurd hs (h2 v)
       | lit b => cases b <;> simp_all
       | adr ad => rw [hw _ hs (by simp)]; rfl
       | tup l => rw [hw _ hs (by simp)]; rfl
       | fnv f x y => rw [hw _ hs (by simp)]; rfl
       | val v =>
         rw [hw _ hs (by simp)]
         cases v <;> first | rfl | (rename_i g; rcases Bool.eq_false_or_eq_true (_ : Bool) with hq | hq <;> first | exact (h7 _ hs hq).elim | exact (h8 _ hs hq).elim)
theorem putD_sound {dst : Option Tmp} {s : SV} {v : Value} {e : Env} {a : Act} {K : Env → Prop} {ds : List Nat} (hf : Fits n e a) (hs : s.den = some v) (hd : ∀ d, dst = some d → d ∈ ds) (h : putD n dst s e K) :
   ∃ e', Fits n e' (a.put dst v) ∧ Agree ds e e' ∧ K e' := by
 unfold putD at h
 split at h
 · exact ⟨e, hf, .refl _ _, h⟩
 · rename_i d
   split at h
   · rename_i hb
     have hlt : d < n := Nat.le_of_ble_eq_true hb
     exact ⟨_, hf.put hlt hs, .put (hd d rfl) s, h⟩
   · exact h.elim
theorem wpList_exec {P : Program} {Q : Exit → Act → World → Prop} {o : Oper} {r : List Oper} {a : Act} {w : World} (hw : Region.wanted o (yielded ops a.tmps) = true)
   (h : o.wp P a w (wpList P ops Q r) Q) : wpList P ops Q (o :: r) a w := by
 unfold wpList
 rw [if_pos hw]
 exact .inl h
theorem wpList_skip {P : Program} {Q : Exit → Act → World → Prop} {o : Oper} {r : List Oper} {a : Act} {w : World} (hw : Region.wanted o (yielded ops a.tmps) = false)
   (h : wpList P ops Q r (a.put o.dst undef) w) : wpList P ops Q (o :: r) a w := by
 unfold wpList
 rw [if_neg (by simp [hw])]
 exact h
theorem wp_reckons {P : Program} {Q : Exit → Act → World → Prop} {o : Oper} {a : Act} {w : World} {k : SV → World → Prop} (h : Reckons P a o fun s => k s w) : o.wp P a w (Leaves a o k) Q := by
 obtain ⟨sv, v, h1, h2, h3⟩ := h
 exact wp_value (h3 w) h2 h1
theorem vcList_sound (hC : CfgOk C) {ds : List Nat} {e0 : Env} : ∀ (l : List Oper) (e : Env) (a : Act) (w : World), (∀ o ∈ l, ∀ d, o.dst = some d → d ∈ ds) → (∀ t, t ∈ dsts ops → t ∈ ds) →
   Fits n e a → Agree ds e0 e → vcList C n ops k l e w → wpList C.P ops (Rq n ds e0 k) l a w
 | [], e, a, w, _, _, hf, hag, h => ⟨e, hf, hag, h⟩
 | o :: r, e, a, w, hl, hds, hf, hag, h => by
   unfold vcList at h
   obtain ⟨e1, hf1, hag1, hw⟩ := wantV_sound hf h
   have hag' := hag.trans (hag1.more hds)
   have hd : ∀ d, o.dst = some d → d ∈ ds := hl o (List.mem_cons_self ..)
   rcases hw with ⟨hw, hx⟩ | ⟨hw, hx⟩
   · refine wpList_exec hw ?_
     have key : ∀ (K : SV → World → Prop), (∀ s w', K s w' → putD n o.dst s e1 fun e' => vcList C n ops k r e' w') → o.wp C.P a w (Leaves a o K) (Rq n ds e0 k) → o.wp C.P a w (wpList C.P ops (Rq n ds e0 k) r) (Rq n ds e0 k) := by
       intro K hK hwp
       refine Oper.wp_mono ?_ hwp
       rintro a' w' ⟨sv, v, rfl, hden, hk⟩
       obtain ⟨e', hf', hag2, hv⟩ := putD_sound hf1 hden hd (hK _ _ hk)
       exact vcList_sound hC r e' _ w' (fun o ho => hl o (List.mem_cons_of_mem _ ho)) hds hf' (hag'.trans hag2) hv
     split at hx
     · exact key (fun s w' => putD n o.dst s e1 fun e' => vcList C n ops k r e' w') (fun _ _ h => h) (wp_reckons (vcP_sound hC hf1 hx))
     · exact key _ (fun _ _ h => h) (vcH_sound hC hf1 hx)
   · refine wpList_skip hw ?_
     obtain ⟨e', hf', hag2, hv⟩ := putD_sound (v := undef) hf1 rfl hd hx
     exact vcList_sound hC r e' _ w (fun o ho => hl o (List.mem_cons_of_mem _ ho)) hds hf' (hag'.trans hag2) hv
theorem dsts_mem {o : Oper} (ho : o ∈ ops.toList) {d : Nat} (hd : o.dst = some d) : d ∈ dsts ops := List.mem_filterMap.2 ⟨o, ho, hd⟩
theorem region_sound (hC : CfgOk C) {id : Nat} {e : Env} {a : Act} {w : World} (hf : Fits n e a) (h : vcList C n ops k ops.toList e w) :
   (Code.region id ops false).wp C.P (Rq n (dsts ops) e k) a w :=
 wp_region_list (vcList_sound hC ops.toList e a w (fun _ ho _ hd => dsts_mem ho hd) (fun _ h => h) hf (.refl _ _) h)
/-! ### drawn -/
def isHop (P : Program) (o : Oper) : Prop := (isP P o.op || isL P o.op) = false
def Live (P : Program) (ops : Array Oper) (l : Nat) (L : Array Bool) : Prop :=
 ∀ q oq, ops[q]? = some oq → isHop P oq → L.getD q false = true → ∀ e ∈ oq.after, Region.binds .any e = true → e.on ≠ l
/-- the facts that are still wanted, hold -/
def SF (P : Program) (ops : Array Oper) (fs : List (Nat × List (Addr × Value))) (L : Array Bool) (w : World) : Prop :=
 ∀ x ∈ fs, Live P ops x.1 L → Facts x.2 w
theorem Live.of_set {P : Program} {l i : Nat} {oi : Oper} {L : Array Bool} (hi : ops[i]? = some oi) (hP : ¬ isHop P oi) : Live P ops l (L.setIfInBounds i true) ↔ Live P ops l L := by
 constructor
 · intro h q oq hq hh hl
   exact h q oq hq hh (getD_set_true hl)
 · intro h q oq hq hh hl
   by_cases hqi : i = q
   · subst hqi; rw [hi] at hq; injection hq with hq; subst hq; exact absurd hh hP
   · rw [getD_set_ne false hqi] at hl; exact h q oq hq hh hl
theorem SF_set {P : Program} {i : Nat} {oi : Oper} (hi : ops[i]? = some oi) (hP : ¬ isHop P oi) (fs : List (Nat × List (Addr × Value))) (L : Array Bool) (w : World) :
   SF P ops fs (L.setIfInBounds i true) w ↔ SF P ops fs L w :=
 ⟨fun h x hx hl => h x hx ((Live.of_set hi hP).2 hl), fun h x hx hl => h x hx ((Live.of_set hi hP).1 hl)⟩
theorem live_unlisted {P : Program} {L : Array Bool} {l : Nat} (hc : Closed .any ops L) (hl : L.getD l true = false) : Live P ops l L := by
 intro q oq hq _ hlq e he hb heq
 have := hc q oq hq hlq e he hb
 rw [heq] at this
 rcases Nat.lt_or_ge l L.size with h' | h'
 · simp [h'] at hl this; rw [hl] at this; cases this
 · simp [Array.getElem?_eq_none h'] at this
theorem stab1_spec {w : World} {p : Prop} : ∀ (cs : List (Addr × Value)), stab1 w cs p → Facts cs w ∧ p
 | [], h => ⟨fun x hx => (List.not_mem_nil hx).elim, h⟩
 | (a, v) :: r, h => by
   obtain ⟨h1, h2⟩ := h
   obtain ⟨h3, h4⟩ := stab1_spec r h2
   refine ⟨fun x hx => ?_, h4⟩
   rcases List.mem_cons.1 hx with rfl | hx
   · exact h1
   · exact h3 x hx
theorem stab_spec {o : Oper} {w : World} {p : Prop} : ∀ (fs : List (Nat × List (Addr × Value))), stab o w fs p → (∀ x ∈ fs, afterB o x.1 = false → Facts x.2 w) ∧ p
 | [], h => ⟨fun x hx => (List.not_mem_nil hx).elim, h⟩
 | (l, cs) :: r, h => by
   unfold stab at h
   split at h
   · rename_i hb
     obtain ⟨h1, h2⟩ := stab_spec r h
     refine ⟨fun x hx hn => ?_, h2⟩
     rcases List.mem_cons.1 hx with rfl | hx
     · simp only at hn; rw [hb] at hn; cases hn
     · exact h1 x hx hn
   · obtain ⟨h1, h2⟩ := stab1_spec cs h
     obtain ⟨h3, h4⟩ := stab_spec r h2
     refine ⟨fun x hx hn => ?_, h4⟩
     rcases List.mem_cons.1 hx with rfl | hx
     · exact h1
     · exact h3 x hx hn
theorem afterB_spec {o : Oper} {l : Nat} (h : afterB o l = true) : ∃ e ∈ o.after, Region.binds .any e = true ∧ e.on = l := by
 unfold afterB at h
 obtain ⟨e, he, hb⟩ := List.any_eq_true.1 h
 simp only [Bool.and_eq_true] at hb
 exact ⟨e, by simpa using he, hb.1, Nat.eq_of_beq_eq_true hb.2⟩
theorem afterB_false {o : Oper} {l : Nat} (h : ∀ e ∈ o.after, Region.binds .any e = true → e.on ≠ l) : afterB o l = false := by
 cases hb : afterB o l with
 | false => rfl
 | true =>
   obtain ⟨e, he, h1, h2⟩ := afterB_spec hb
   exact absurd h2 (h e he h1)
theorem dropF_mem {o : Oper} : ∀ (fs : List (Nat × List (Addr × Value))) x, x ∈ dropF o fs → x ∈ fs
 | [], _, hx => hx
 | (l, cs) :: r, x, hx => by
   unfold dropF at hx
   split at hx
   · exact List.mem_cons_of_mem _ (dropF_mem r x hx)
   · rcases List.mem_cons.1 hx with rfl | hx
     · exact List.mem_cons_self ..
     · exact List.mem_cons_of_mem _ (dropF_mem r x hx)
theorem mem_dropF {o : Oper} : ∀ (fs : List (Nat × List (Addr × Value))) x, x ∈ fs → afterB o x.1 = false → x ∈ dropF o fs
 | [], _, hx, _ => hx
 | (l, cs) :: r, x, hx, hn => by
   unfold dropF
   rcases List.mem_cons.1 hx with rfl | hx
   · simp only at hn; rw [hn]; exact List.mem_cons_self ..
   · split
     · exact mem_dropF r x hx hn
     · exact List.mem_cons_of_mem _ (mem_dropF r x hx hn)
end
end Go.Vc
namespace Go.Vc
open Go
section
variable {C : Cfg} {n : Nat} {ops : Array Oper} {k : Env → World → Prop}
theorem ready_lt {L : Array Bool} {i : Nat} (h : i ∈ Region.ready .any ops L) : (L.setIfInBounds i true).getD i false = true := by
 have := (mem_ready.1 h).1
 have hlt : i < L.size := by
   rcases Nat.lt_or_ge i L.size with h' | h'
   · exact h'
   · simp [Array.getElem?_eq_none h'] at this
 simp [hlt]
theorem SF_sub {P : Program} {fs fs' : List (Nat × List (Addr × Value))} (h : ∀ x ∈ fs', x ∈ fs) {L : Array Bool} {w : World} (hs : SF P ops fs L w) : SF P ops fs' L w := fun x hx hl => hs x (h x hx) hl
theorem SF_hop {P : Program} {i : Nat} {o : Oper} (hi : ops[i]? = some o) (hH : isHop P o) {L : Array Bool} (hl : L.getD i false = true) {fs : List (Nat × List (Addr × Value))} {w : World}
   (h : ∀ x ∈ fs, afterB o x.1 = false → Facts x.2 w) : SF P ops fs L w := fun x hx hlive => h x hx (afterB_false (hlive i o hi hH hl))
theorem vcDraw_sound (hC : CfgOk C) (hsel : Region.noSelect ops = true) {e0 : Env} : ∀ (l : List Nat) (fuel : Nat) (L : Array Bool) (e : Env) (a : Act) (w : World) (fs : List (Nat × List (Addr × Value))),
   l.length ≤ fuel → drawOk C.P ops l L = true → Closed .any ops L → SF C.P ops fs L w → Fits n e a → Agree (dsts ops) e0 e → vcDraw C n ops k l e w fs →
   wpAnyS C.P .any ops (Rq n (dsts ops) e0 k) (SF C.P ops fs) fuel L a w
 | [], fuel, L, e, a, w, fs, _, hd, _, _, hf, hag, h => by
   have hr : Region.ready .any ops L = [] := by simpa [drawOk] using hd
   cases fuel with
   | zero => exact ⟨hr, e, hf, hag, h⟩
   | succ f => exact ⟨fun _ => ⟨e, hf, hag, h⟩, by rw [hr]; simp⟩
 | i :: r, 0, _, _, _, _, _, hlen, _, _, _, _, _, _ => by simp at hlen
 | i :: r, fuel + 1, L, e, a, w, fs, hlen, hd, hcl, hS, hf, hag, h => by
   unfold vcDraw at h
   unfold drawOk at hd
   have hlen' : r.length ≤ fuel := by simpa using hlen
   cases hi : ops[i]? with
   | none => simp [hi] at h
   | some o =>
     simp only [hi, Bool.and_eq_true] at h hd
     obtain ⟨hd1, hd2⟩ := hd
     have hom : o ∈ ops.toList := by simpa using Array.mem_of_getElem? hi
     have hdst : ∀ d, o.dst = some d → d ∈ dsts ops := fun d hd => dsts_mem hom hd
     have hQ : ∀ v c (a : Act) w, Rq n (dsts ops) e0 k (.panic c) (a.put o.dst v) w → Rq n (dsts ops) e0 k (.panic c) a w := fun _ _ _ _ h => h
     -- taken first
     have first : ∀ (fs' : List (Nat × List (Addr × Value))) (v : Value) (e' : Env), ¬ isHop C.P o → (∀ x ∈ fs, x ∈ fs') → SF C.P ops fs' L w →
         YieldsIf C.P ops (fun w => ∃ L, Closed .any ops L ∧ L.getD i true = false ∧ SF C.P ops fs' L w) o v a →
         Fits n e' (a.put o.dst v) → Agree (dsts ops) e0 e' → vcDraw C n ops k r e' w fs' → wpAnyS C.P .any ops (Rq n (dsts ops) e0 k) (SF C.P ops fs) (fuel + 1) L a w := by
       intro fs' v e' hP hsub hS' hy hf' hag' hv
       have hb : (isP C.P o.op || isL C.P o.op) = true := by
         cases hb : (isP C.P o.op || isL C.P o.op) with
         | true => rfl
         | false => exact absurd hb hP
       rw [hb] at hd1
       simp only [Bool.and_eq_true] at hd1
       obtain ⟨hr, hfree⟩ := hd1
       have hr' : i ∈ Region.ready .any ops L := by simpa using hr
       refine wpAnyS_weaken (S := SF C.P ops fs') (fun L w hs => SF_sub hsub hs) _ _ _ _ ?_
       exact wpAnyS_first hi (Region.noSelect_spec hsel) (hQ v) (SF_set hi hP fs') fuel L a w (Region.free_spec hi hfree) hr' hcl hy hS'
         (vcDraw_sound hC hsel r fuel _ e' _ w fs' hlen' hd2 (hcl.set hr') ((SF_set hi hP fs' L w).2 hS') hf' hag' hv)
     split at h
     · rename_i hp
       have hP : ¬ isHop C.P o := by simp [isHop, hp]
       obtain ⟨e1, hf1, hag1, hw⟩ := wantV_sound hf h
       rcases hw with ⟨hw, hx⟩ | ⟨hw, hx⟩
       · obtain ⟨sv, v, hk, hden, hrun⟩ := vcP_sound hC hf1 hx
         obtain ⟨e', hf', hag2, hv⟩ := putD_sound hf1 hden hdst hk
         exact first fs v e' hP (fun _ h => h) hS (.inl ⟨hw, fun w _ => hrun w⟩) hf' ((hag.trans hag1).trans hag2) hv
       · obtain ⟨e', hf', hag2, hv⟩ := putD_sound (v := undef) hf1 rfl hdst hx
         exact first fs undef e' hP (fun _ h => h) hS (.inr ⟨hw, rfl⟩) hf' ((hag.trans hag1).trans hag2) hv
     · rename_i hp hl
       have hP : ¬ isHop C.P o := by simp [isHop, hl]
       obtain ⟨e1, hf1, hag1, hw⟩ := wantV_sound hf h
       rcases hw with ⟨hw, hx⟩ | ⟨hw, hx⟩
       · split at hx
         · rename_i t x hop
           obtain ⟨sv, v, cs, hk, hden, hfs, hrun⟩ := vcLoad_sound hx
           have hxe : a.eval x = (ev e1 x).v := hf1.ev_v rfl (fun hn => by rw [hn] at hx; unfold vcLoad at hx; split at hx <;> simp_all)
           obtain ⟨e', hf', hag2, hv⟩ := putD_sound hf1 hden hdst hk
           refine first ((i, cs) :: fs) v e' hP (fun _ h => List.mem_cons_of_mem _ h) ?_ (.inl ⟨hw, fun w' hw' => ?_⟩) hf' ((hag.trans hag1).trans hag2) hv
           · intro y hy hlive
             rcases List.mem_cons.1 hy with rfl | hy
             · exact hfs
             · exact hS y hy hlive
           · obtain ⟨L', hcl', hun, hs'⟩ := hw'
             have : Facts cs w' := hs' (i, cs) (List.mem_cons_self ..) (live_unlisted hcl' hun)
             simp only [execOp, hop, hxe, Sem.run_bind, hrun w' this, Result.andThen_ok, Sem.run_pure]
         · rename_i src dst x hop
           rw [hop] at hl
           obtain ⟨e2, u1, u2, u3⟩ := isL_convert hl
           obtain ⟨sv, v, cs, hk, hden, hfs, hrun⟩ := vcCv_sound u1 u2 u3 hx
           have hxe : a.eval x = (ev e1 x).v := hf1.ev_v rfl (fun hn => by rw [hn] at hx; unfold vcCv at hx; split at hx <;> simp_all)
           obtain ⟨e', hf', hag2, hv⟩ := putD_sound hf1 hden hdst hk
           refine first ((i, cs) :: fs) v e' hP (fun _ h => List.mem_cons_of_mem _ h) ?_ (.inl ⟨hw, fun w' hw' => ?_⟩) hf' ((hag.trans hag1).trans hag2) hv
           · intro y hy hlive
             rcases List.mem_cons.1 hy with rfl | hy
             · exact hfs
             · exact hS y hy hlive
           · obtain ⟨L', hcl', hun, hs'⟩ := hw'
             have : Facts cs w' := hs' (i, cs) (List.mem_cons_self ..) (live_unlisted hcl' hun)
             simp only [execOp, hop, hxe, Sem.run_bind, hrun w' this, Result.andThen_ok, Sem.run_pure]
         · exact hx.elim
       · obtain ⟨e', hf', hag2, hv⟩ := putD_sound (v := undef) hf1 rfl hdst hx
         exact first fs undef e' hP (fun _ h => h) hS (.inr ⟨hw, rfl⟩) hf' ((hag.trans hag1).trans hag2) hv
     · rename_i hp hl
       have hH : isHop C.P o := by simp [isHop, hp, hl]
       have hb : (isP C.P o.op || isL C.P o.op) = false := hH
       rw [hb] at hd1
       have hr : Region.ready .any ops L = [i] := by simpa using hd1
       have hr' : i ∈ Region.ready .any ops L := by rw [hr]; simp
       have hli := ready_lt hr'
       refine ⟨fun h0 => absurd (hr ▸ h0) (by simp), fun j hj => ?_⟩
       rw [hr] at hj
       have hji : j = i := by simpa using hj
       subst hji
       -- what comes behind
       have behind : ∀ (v : Value) (sv : SV) (e1 : Env) (w' : World), Fits n e1 a → Agree (dsts ops) e0 e1 → sv.den = some v →
           stab o w' fs (putD n o.dst sv e1 fun e' => vcDraw C n ops k r e' w' (dropF o fs)) →
           SF C.P ops fs (L.setIfInBounds j true) w' ∧ wpAnyS C.P .any ops (Rq n (dsts ops) e0 k) (SF C.P ops fs) fuel (L.setIfInBounds j true) (a.put o.dst v) w' := by
         intro v sv e1 w' hf1 hag1 hden hst
         obtain ⟨hst1, hst2⟩ := stab_spec fs hst
         obtain ⟨e', hf', hag2, hv⟩ := putD_sound hf1 hden hdst hst2
         have hS' : SF C.P ops fs (L.setIfInBounds j true) w' := SF_hop hi hH hli hst1
         refine ⟨hS', ?_⟩
         refine wpAnyS_mono (S := SF C.P ops (dropF o fs)) (i := j) (fun L' w'' hl' hs' => ?_) _ _ _ _ hli
           (vcDraw_sound hC hsel r fuel _ e' _ w' (dropF o fs) hlen' hd2 (hcl.set hr') (SF_sub (dropF_mem fs) hS') hf' (hag1.trans hag2) hv)
         intro x hx hlive
         exact hs' x (mem_dropF fs x hx (afterB_false (hlive j o hi hH hl'))) hlive
       obtain ⟨e1, hf1, hag1, hw⟩ := wantV_sound hf h
       unfold wpOp
       simp only [hi]
       rcases hw with ⟨hw, hx⟩ | ⟨hw, hx⟩
       · rw [if_pos hw]
         refine .inl (Oper.wp_mono ?_ (vcH_sound hC hf1 hx))
         rintro a' w' ⟨sv, v, rfl, hden, hk⟩
         exact behind v sv e1 w' hf1 (hag.trans hag1) hden hk
       · rw [if_neg (by simp [hw])]
         exact behind undef (.val undef) e1 w hf1 (hag.trans hag1) rfl hx
theorem region_draw_sound (hC : CfgOk C) (hsel : Region.noSelect ops = true) {id : Nat} {ord : List Nat} (hlen : Nat.ble ord.length ops.size = true) (hok : drawOk C.P ops ord (Array.replicate ops.size false) = true)
   {e : Env} {a : Act} {w : World} (hf : Fits n e a) (h : vcDraw C n ops k ord e w.drew []) :
   (Code.region id ops true).wp C.P (Rq n (dsts ops) e k) a w := by
 refine wp_region_any hC.mixed (wpAny_of_S (S := SF C.P ops []) _ _ _ _ ?_)
 refine vcDraw_sound hC hsel ord ops.size _ e a w.drew [] (Nat.le_of_ble_eq_true hlen) hok ?_ (fun x hx => (List.not_mem_nil hx).elim) hf (.refl _ _) h
 intro q oq hq hl
 exfalso
 have hlt : q < ops.size := (Array.getElem?_eq_some_iff.1 hq).1
 simp [hlt] at hl
end
end Go.Vc
namespace Go.Vc
open Go Go.RowKit
/-! ### Regions that draw their order and make memory of their own: what is made may come up at any time ahead of its use -/
def memB (t : Nat) : List Nat → Bool
 | [] => false
 | x :: r => match Nat.beq t x with | true => true | false => memB t r
theorem memB_iff (t : Nat) : ∀ l, memB t l = true ↔ t ∈ l
 | [] => by simp [memB]
 | x :: r => by
   unfold memB
   cases hb : Nat.beq t x with
   | true => simp [Nat.eq_of_beq_eq_true hb]
   | false =>
     have : t ≠ x := fun he => by subst he; simp at hb
     simp [memB_iff t r, this]
def inIv : List (Nat × Nat) → Nat → Prop
 | [], _ => False
 | (a, b) :: r, g => (a ≤ g ∧ g < b) ∨ inIv r g
/-- what was made ahead of its use, and is not used yet, is as it was -/
def Keep (ivs : List (Nat × Nat)) (us : List Nat) (w w' : World) : Prop := w.heap.size ≤ w'.heap.size ∧ ∀ g, inIv ivs g → g ∉ us → w'.heap[g]? = w.heap[g]?
def isA (o : Oper) : Bool :=
 match o.guard, o.op with
 | none, .alloc _ => true
 | none, .box .. => true
 | none, .buildSlice .. => true
 | _, _ => false
/-- a copy of what an operation of the list has made -/
def isM (ops : Array Oper) (late : List Nat) (o : Oper) : Bool :=
 match o.guard, o.op with
 | none, .move (.tmp t) => late.any fun j => match ops[j]? with | some p => (match p.dst with | some d => Nat.beq d t | none => false) | none => false
 | _, _ => false
def lateFrom (ops : Array Oper) : Nat → List Oper → List Nat → List Nat
 | _, [], acc => acc
 | i, o :: r, acc => match isA o || isM ops acc o with | true => lateFrom ops (i + 1) r (i :: acc) | false => lateFrom ops (i + 1) r acc
def lates (ops : Array Oper) : List Nat := lateFrom ops 0 ops.toList []
/-- the type, the cells and the slot of what an operation makes -/
def aOf (P : Program) (e : Env) (o : Oper) : Option (TypeId × List Value × (Nat → SV)) :=
 match o.op with
 | .alloc t => match zeroT P t with
   | some z => some (t, z.cells.toList, fun g => .adr ⟨g, 0, none⟩)
   | none => none
 | .box t x => match (ev e x).den with
   | some v => some (t, v.cells.toList, fun g => .adr ⟨g, 0, none⟩)
   | none => none
 | .buildSlice t len parts =>
   match P.underlying t with
   | some (.slice el) =>
     match sizeT P el, zeroT P el with
     | some sz, some z =>
       match Nat.beq parts.toList.length len, Nat.beq z.cells.size sz, Nat.ble (len * sz) 4096, Nat.ble 1 sz, seqParts 0 sz (parts.toList.map fun p => (p.1, ev e p.2)) with
       | true, true, true, true, some l => some (el, l, fun g => .val (.slice (some ⟨g, 0, none⟩) len len))
       | _, _, _, _, _ => none
     | _, _ => none
   | _ => none
 | _ => none
def slotNo : SV → Bool
 | .no => true
 | _ => false
def preds (o : Oper) : List Nat := (o.after.toList.filter fun e => Region.binds .any e).map (·.on)
/-- whatever may be made now, can be -/
def aChk (P : Program) (ops : Array Oper) (e : Env) (r : List Nat) : Bool :=
 r.all fun j => match ops[j]? with
   | some o => match isA o && !(preds o).any (fun q => memB q r) with
     | true => (aOf P e o).isSome
     | false => true
   | none => false
def lateNo (ops : Array Oper) (e : Env) : Bool :=
 (lates ops).all fun j => match ops[j]? with
   | some o => match o.dst with | some d => slotNo (e d) | none => true
   | none => false
def vcX (C : Cfg) (n : Nat) (ops : Array Oper) (k : Env → World → Prop) : List Nat → Env → World → List (Nat × Nat) → List Nat → List (Nat × List (Addr × Value)) → Prop
 | [], e, w, _, _, _ => ∀ w1 : World, Below w.heap.size w w1 → k e w1
 | i :: r, e, w, ivs, us, fs =>
   match ops[i]? with
   | none => False
   | some o =>
     match memB i (lates ops), isA o with
     | true, true =>
       match aChk C.P ops e (i :: r), aOf C.P e o with
       | true, some (t, cs, mk) => ∀ (w1 : World) (g : Nat), Below w.heap.size w w1 → inIv ((w.heap.size, w1.heap.size) :: ivs) g → g ∉ us → w1.heap[g]? = some (.cells ⟨cs⟩ t (0, 0)) →
           putD n o.dst (mk g) e fun e' => vcX C n ops k r e' w1 ((w.heap.size, w1.heap.size) :: ivs) (g :: us) fs
       | _, _ => False
     | true, false => match aChk C.P ops e (i :: r) with
       | true => vcP C e o.op fun s => putD n o.dst s e fun e' => vcX C n ops k r e' w ivs us fs
       | false => False
     | false, _ =>
       match isP C.P o.op, isL C.P o.op with
       | true, _ => wantV ops o e (fun e => vcP C e o.op fun s => putD n o.dst s e fun e' => vcX C n ops k r e' w ivs us fs)
           (fun e => putD n o.dst (.val undef) e fun e' => vcX C n ops k r e' w ivs us fs)
       | false, true => wantV ops o e (fun e => match o.op with
             | .load t x => vcLoad C.P t (ev e x) w fun s cs => putD n o.dst s e fun e' => vcX C n ops k r e' w ivs us ((i, cs) :: fs)
             | .convert _ _ x => vcCv (ev e x) w fun s cs => putD n o.dst s e fun e' => vcX C n ops k r e' w ivs us ((i, cs) :: fs)
             | _ => False)
           (fun e => putD n o.dst (.val undef) e fun e' => vcX C n ops k r e' w ivs us fs)
       | false, false => match aChk C.P ops e (i :: r) with
         | true => ∀ w1 : World, Below w.heap.size w w1 → wantV ops o e
             (fun e => vcH C e o w1 fun s w' => Keep ((w.heap.size, w1.heap.size) :: ivs) us w1 w' ∧ stab o w' fs (putD n o.dst s e fun e' => vcX C n ops k r e' w' ((w.heap.size, w1.heap.size) :: ivs) us (dropF o fs)))
             (fun e => stab o w1 fs (putD n o.dst (.val undef) e fun e' => vcX C n ops k r e' w1 ((w.heap.size, w1.heap.size) :: ivs) us (dropF o fs)))
         | false => False
/-- of what stands behind the head of the list: who can't come up as long as the head has not -/
def blockFrom (ops : Array Oper) (late : List Nat) : List Nat → List Nat → List Nat
 | [], bl => bl
 | y :: r, bl => match ops[y]? with
   | some o => match memB y late && !(preds o).any (fun q => memB q bl) with
     | true => blockFrom ops late r bl
     | false => blockFrom ops late r (y :: bl)
   | none => bl
/-- who is not made ahead waits for one that can't come up -/
def waitAll (ops : Array Oper) (late : List Nat) (bl : List Nat) (r : List Nat) : Bool :=
 r.all fun y => memB y late || match ops[y]? with | some o => (preds o).any (fun q => memB q bl) | none => false
def okX (P : Program) (ops : Array Oper) : List Nat → Array Bool → Bool
 | [], L => (Region.ready .any ops L).isEmpty
 | i :: r, L =>
   (match ops[i]? with
    | none => false
    | some o =>
      (Region.ready .any ops L).contains i && (match memB i (lates ops), isP P o.op || isL P o.op with
       | false, true => Region.free .any ops L i
       | _, _ => waitAll ops (lates ops) (blockFrom ops (lates ops) r [i]) r)) && okX P ops r (L.setIfInBounds i true)
/-- the slots of what is made ahead are nobody else's, and what it looks at is laid before it -/
def lateApart (ops : Array Oper) : Bool :=
 (lates ops).all fun i => match ops[i]? with
   | none => false
   | some o =>
     (o.dst.isSome && !(preds o).any (fun q => isA o && memB q (lates ops))) &&
     (List.range ops.size).all fun j => Nat.beq j i || match ops[j]? with
       | none => true
       | some p => match p.dst with
         | none => true
         | some d => p.dst != o.dst && (!(o.looksAt ops).contains d || memB j (preds o))
/-- the order: what only reads, first; then the next one that turns the world; else what is wanted for it -/
def greedyX (P : Program) (ops : Array Oper) : Nat → Array Bool → List Nat
 | 0, _ => []
 | f + 1, L =>
   let rs := Region.ready .any ops L
   match rs.find? (fun i => match ops[i]? with | some o => (isP P o.op || isL P o.op) && !memB i (lates ops) | none => false) with
   | some i => i :: greedyX P ops f (L.setIfInBounds i true)
   | none =>
     match rs.find? (fun i => !memB i (lates ops)) with
     | some i => i :: greedyX P ops f (L.setIfInBounds i true)
     | none =>
       match rs with
       | i :: _ => i :: greedyX P ops f (L.setIfInBounds i true)
       | [] => []
def ordX (P : Program) (ops : Array Oper) : List Nat := greedyX P ops ops.size (Array.replicate ops.size false)
def dstLt (n : Nat) (ops : Array Oper) : Bool := ops.toList.all fun o => match o.dst with | some d => Nat.blt d n | none => true
def nodupB : List Nat → Bool
 | [] => true
 | x :: r => !(memB x r) && nodupB r
def xChk (n : Nat) (P : Program) (ops : Array Oper) : Bool :=
 (Region.noSelect ops && dstLt n ops) && (lateApart ops && (((nodupB (ordX P ops) && (ordX P ops).all fun i => Nat.blt i ops.size) && (List.range ops.size).all fun i => memB i (ordX P ops)) &&
   okX P ops (ordX P ops) (Array.replicate ops.size false)))
end Go.Vc
namespace Go.Vc
open Go Go.RowKit
section
variable {C : Cfg} {n : Nat} {ops : Array Oper} {k : Env → World → Prop}
/-- what an operation makes, by the values that the machine has -/
def aAct (P : Program) (ρ : Operand → Value) (o : Oper) : Option (TypeId × List Value × (Nat → Value)) :=
 match o.op with
 | .alloc t => match zeroT P t with
   | some z => some (t, z.cells.toList, fun g => .pointer (some ⟨g, 0, none⟩))
   | none => none
 | .box t x => some (t, (ρ x).cells.toList, fun g => .pointer (some ⟨g, 0, none⟩))
 | .buildSlice t len parts =>
   match P.underlying t with
   | some (.slice el) => some (el, parts.toList.flatMap (fun p => (ρ p.2).cells.toList), fun g => .slice (some ⟨g, 0, none⟩) len len)
   | _ => none
 | _ => none
theorem seqParts_flat {a : Act} {e : Env} (hf : Fits n e a) : ∀ (parts : List (Nat × Operand)) (m size : Nat) (l : List Value), seqParts m size (parts.map fun p => (p.1, ev e p.2)) = some l →
   l = parts.flatMap fun p => (a.eval p.2).cells.toList
 | [], m, size, l, h => by simp only [List.map_nil, seqParts, Option.some.injEq] at h; simp [← h]
 | (i, x) :: r, m, size, l, h => by
   simp only [List.map_cons] at h
   unfold seqParts at h
   split at h
   · rename_i v hi hx
     split at h
     · rename_i l' hs hr
       injection h with h
       rw [← h, seqParts_flat hf r _ _ _ hr, List.flatMap_cons, hf.ev_den hx]
     · cases h
   · cases h
theorem aOf_act {P : Program} {e : Env} {a : Act} (hf : Fits n e a) {o : Oper} {t : TypeId} {cs : List Value} {mk : Nat → SV} (h : aOf P e o = some (t, cs, mk)) :
   aAct P a.eval o = some (t, cs, fun g => (mk g).v) ∧ ∀ g, (mk g).den = some (mk g).v := by
 obtain ⟨dst, op, type, pos, after, guard⟩ := o
 unfold aOf at h
 simp only at h
 split at h
 · rename_i ty
   split at h
   · rename_i z hz
     simp only [Option.some.injEq, Prod.mk.injEq] at h
     obtain ⟨rfl, rfl, rfl⟩ := h
     exact ⟨by simp [aAct, hz, SV.v], fun _ => rfl⟩
   · cases h
 · rename_i ty x
   split at h
   · rename_i v hv
     simp only [Option.some.injEq, Prod.mk.injEq] at h
     obtain ⟨rfl, rfl, rfl⟩ := h
     exact ⟨by simp [aAct, hf.ev_den hv, SV.v], fun _ => rfl⟩
   · cases h
 · rename_i ty len parts
   split at h
   · rename_i el hu
     split at h
     · split at h
       · rename_i l _ _ _ _ hs
         simp only [Option.some.injEq, Prod.mk.injEq] at h
         obtain ⟨rfl, rfl, rfl⟩ := h
         refine ⟨?_, fun _ => rfl⟩
         simp [aAct, hu, seqParts_flat hf _ _ _ _ hs, SV.v]
       · cases h
     · cases h
   · cases h
 · cases h
theorem aOf_run {P : Program} {e : Env} {a : Act} (hf : Fits n e a) {o : Oper} {t : TypeId} {cs : List Value} {mk : Nat → SV} (h : aOf P e o = some (t, cs, mk)) (w : World) :
   (execOp a.eval o).run P w = .ok (.value (mk w.heap.size).v) (w.alloc (.cells ⟨cs⟩ t)) := by
 unfold aOf at h
 obtain ⟨dst, op, type, pos, after, guard⟩ := o
 simp only at h
 split at h
 · rename_i ty
   split at h
   · rename_i z hz
     simp only [Option.some.injEq, Prod.mk.injEq] at h
     obtain ⟨rfl, rfl, rfl⟩ := h
     simp [execOp, Instr.alloc, run_zeroT hz, newVar, newRow, SV.v]
   · cases h
 · rename_i ty x
   split at h
   · rename_i v hv
     simp only [Option.some.injEq, Prod.mk.injEq] at h
     obtain ⟨rfl, rfl, rfl⟩ := h
     simp [execOp, Instr.box, newVar, newRow, hf.ev_den hv, SV.v]
   · cases h
 · rename_i ty len parts
   have hb : vcBuildSlice P ty len (parts.toList.map fun p => (p.1, ev e p.2)) w (fun s w' => s = mk w.heap.size ∧ w' = w.alloc (.cells ⟨cs⟩ t)) := by
     unfold vcBuildSlice
     split at h
     · rename_i el hu
       try simp only [hu]
       split at h
       · rename_i sz z hsz hz
         try simp only [hsz, hz]
         split at h
         · rename_i l h1 h2 h3 h4 h5
           simp only [Option.some.injEq, Prod.mk.injEq] at h
           obtain ⟨rfl, rfl, rfl⟩ := h
           have h1' : Nat.beq (parts.toList.map fun p => (p.1, ev e p.2)).length len = true := by simpa using h1
           try simp only [h1', h2, h3, h4, h5]
           first | exact ⟨rfl, rfl⟩ | simp
         · cases h
       · cases h
     · cases h
   obtain ⟨h1, sv, v, w', ⟨rfl, rfl⟩, hd, hr⟩ := vcBuildSlice_sound hb
   have hv : v = (mk w.heap.size).v := ((den_v hd).2).symm
   subst hv
   simp only [execOp]
   rw [parts_map hf parts h1]
   simp only [Sem.run_bind, hr, Result.andThen_ok, Sem.run_pure]
 · cases h
theorem aAct_put {P : Program} {a : Act} {o : Oper} {dst : Option Tmp} {v : Value} (h : ∀ d, dst = some d → d ∉ o.looksAt ops) : aAct P (a.put dst v).eval o = aAct P a.eval o := by
 have hx : ∀ x ∈ o.op.operands, (a.put dst v).eval x = a.eval x := fun x hx => Act.eval_put fun d hd he => h d hd (by
   subst he
   exact List.mem_append_left _ (List.mem_filterMap.2 ⟨.tmp d, by simpa using hx, rfl⟩))
 obtain ⟨d0, op, type, pos, after, guard⟩ := o
 unfold aAct
 cases op <;> simp only
 case box t x => rw [hx x (by simp [Op.operands])]
 case buildSlice t len parts =>
   split
   · have : parts.toList.flatMap (fun p => ((a.put dst v).eval p.2).cells.toList) = parts.toList.flatMap (fun p => (a.eval p.2).cells.toList) := by
       rw [List.flatMap_def, List.flatMap_def]
       congr 1
       refine List.map_congr_left fun p hp => ?_
       rw [hx p.2 (by simp [Op.operands]; exact ⟨p.1, by simpa using hp⟩)]
     rw [this]
   · rfl
theorem wantV_sound' {o : Oper} {e : Env} {a : Act} (hf : Fits n e a) {exec skip : Env → Prop} (h : wantV ops o e exec skip) :
   ∃ e', Fits n e' a ∧ Agree (dsts ops) e e' ∧ (∀ t, e t = .no → e' t = .no) ∧ ((Region.wanted o (yielded ops a.tmps) = true ∧ exec e') ∨ (Region.wanted o (yielded ops a.tmps) = false ∧ skip e')) := by
 have h2 : wantV ops o e (fun e' => exec e' ∧ ∀ t, e t = .no → e' t = .no) (fun e' => skip e' ∧ ∀ t, e t = .no → e' t = .no) := by
   have hput : ∀ t b g, e t = .val (.bool g) → ∀ t', e t' = .no → (e.put t (.lit b)) t' = .no := by
     intro t b g ht t' ht'
     unfold Env.put
     cases hb : Nat.beq t' t with
     | true => have := Nat.eq_of_beq_eq_true hb; subst this; rw [ht] at ht'; cases ht'
     | false => exact ht'
   unfold wantV at h ⊢
   split
   · rename_i hg; simp only [hg] at h; exact ⟨h, fun _ ht => ht⟩
   · rename_i j want hg
     simp only [hg] at h
     split
     · rename_i hd; simp only [hd] at h; exact ⟨h, fun _ ht => ht⟩
     · rename_i t hd
       simp only [hd] at h
       split
       all_goals (rename_i he; simp only [he] at h)
       all_goals first
         | exact ⟨h, fun _ ht => ht⟩
         | exact h.elim
         | exact ⟨fun hg => ⟨h.1 hg, hput _ _ _ he⟩, fun hg => ⟨h.2 hg, hput _ _ _ he⟩⟩
 obtain ⟨e', h3, h4, h5⟩ := wantV_sound hf h2
 rcases h5 with ⟨h5, h6, h7⟩ | ⟨h5, h6, h7⟩
 · exact ⟨e', h3, h4, h7, .inl ⟨h5, h6⟩⟩
 · exact ⟨e', h3, h4, h7, .inr ⟨h5, h6⟩⟩
end
end Go.Vc
namespace Go.Vc
open Go Go.RowKit
section
variable {C : Cfg} {n : Nat} {ops : Array Oper} {k : Env → World → Prop}
/-- how many have not come up -/
def cnt (L : Array Bool) : Nat := L.toList.count false
theorem cnt_set {L : Array Bool} {i : Nat} (h : L.getD i true = false) : cnt (L.setIfInBounds i true) + 1 = cnt L := by
 have hlt : i < L.size := by
   rcases Nat.lt_or_ge i L.size with h' | h'
   · exact h'
   · simp [Array.getElem?_eq_none h'] at h
 have hv : L.toList[i]'(by simpa using hlt) = false := by simpa [hlt] using h
 unfold cnt
 rw [Array.toList_setIfInBounds, List.count_set (by simpa using hlt)]
 have hpos : 0 < L.toList.count false := List.count_pos_iff.2 (hv ▸ List.getElem_mem _)
 rw [hv]
 have h1 : (false == false) = true := rfl
 have h2 : (true == false) = false := rfl
 rw [h1, h2]
 simp only [if_true, Bool.false_eq_true, if_false]
 omega
structure XI (C : Cfg) (n : Nat) (ops : Array Oper) (L : Array Bool) (a : Act) (w : World) (r : List Nat) (e : Env) (wb : World) (ivs : List (Nat × Nat)) (us : List Nat) (ea : List (Nat × Nat)) : Prop where
 fits : Fits n e a
 ext : Below wb.heap.size wb w
 closed : Closed .any ops L
 rem : ∀ i ∈ r, memB i (lates ops) = false → L.getD i true = false
 out : ∀ i, i < L.size → i ∉ r → L.getD i false = true
 bnd : ∀ i ∈ r, i < L.size
 no : ∀ i ∈ r, memB i (lates ops) = true → ∀ o d, ops[i]? = some o → o.dst = some d → e d = .no
 eaA : ∀ p ∈ ea, p.1 ∈ r ∧ L.getD p.1 false = true ∧ ∃ o t cs f, ops[p.1]? = some o ∧ memB p.1 (lates ops) = true ∧ isA o = true ∧ aAct C.P a.eval o = some (t, cs, f) ∧ w.heap[p.2]? = some (.cells ⟨cs⟩ t (0, 0)) ∧
   (∀ d, o.dst = some d → a.tmps.getD d undef = f p.2) ∧ inIv ((wb.heap.size, w.heap.size) :: ivs) p.2 ∧ p.2 ∉ us
 eaU : ∀ p ∈ ea, ∀ q ∈ ea, p.2 = q.2 → p.1 = q.1
 lst : ∀ i ∈ r, memB i (lates ops) = true → L.getD i false = true → ∀ o, ops[i]? = some o →
   (isA o = true → ∃ g, (i, g) ∈ ea) ∧ (isA o = false → ∃ t d, o.op = .move (.tmp t) ∧ o.guard = none ∧ o.dst = some d ∧ a.tmps.getD d undef = a.tmps.getD t undef)
 nodup : r.Nodup
 usI : ∀ g ∈ us, g < w.heap.size
theorem getD_of_true {L : Array Bool} {i : Nat} (h : L.getD i false = true) : L.getD i true = true := by
 rcases Nat.lt_or_ge i L.size with h' | h'
 · simp [h'] at h ⊢; exact h
 · simp [Array.getElem?_eq_none h'] at h
theorem getD_false_true {L : Array Bool} {i : Nat} (hb : i < L.size) (h : L.getD i true = true) : L.getD i false = true := by
 simp [hb] at h ⊢; exact h
theorem getD_bool {L : Array Bool} {i : Nat} (hb : i < L.size) : L.getD i true = false ∨ L.getD i false = true := by
 cases h : L.getD i true with
 | false => exact .inl rfl
 | true => exact .inr (getD_false_true hb h)
theorem preds_mem {o : Oper} {q : Nat} : q ∈ preds o ↔ ∃ e ∈ o.after, Region.binds .any e = true ∧ e.on = q := by
 unfold preds
 simp only [List.mem_map, List.mem_filter]
 constructor
 · rintro ⟨e, ⟨he, hb⟩, rfl⟩; exact ⟨e, by simpa using he, hb, rfl⟩
 · rintro ⟨e, he, hb, rfl⟩; exact ⟨e, ⟨by simpa using he, hb⟩, rfl⟩
theorem ready_preds {L : Array Bool} {j : Nat} : j ∈ Region.ready .any ops L ↔ L.getD j true = false ∧ ∃ o, ops[j]? = some o ∧ ∀ q ∈ preds o, L.getD q false = true := by
 rw [mem_ready]
 constructor
 · rintro ⟨h1, o, h2, h3⟩
   refine ⟨h1, o, h2, fun q hq => ?_⟩
   obtain ⟨e, he, hb, rfl⟩ := preds_mem.1 hq
   exact h3 e he hb
 · rintro ⟨h1, o, h2, h3⟩
   exact ⟨h1, o, h2, fun e he hb => h3 _ (preds_mem.2 ⟨e, he, hb, rfl⟩)⟩
theorem closed_preds {L : Array Bool} (h : Closed .any ops L) {q : Nat} {o : Oper} (ho : ops[q]? = some o) (hl : L.getD q false = true) : ∀ p ∈ preds o, L.getD p false = true := fun p hp => by
 obtain ⟨e, he, hb, rfl⟩ := preds_mem.1 hp
 exact h q o ho hl e he hb
/-- who is blocked has not come up -/
theorem blocked {L : Array Bool} (hcl : Closed .any ops L) : ∀ (r bl : List Nat), (∀ x ∈ bl, L.getD x true = false) → (∀ i ∈ r, memB i (lates ops) = false → L.getD i true = false) → (∀ i ∈ r, i < L.size) →
   ∀ x ∈ blockFrom ops (lates ops) r bl, L.getD x true = false
 | [], bl, h, _, _, x, hx => h x (by simpa [blockFrom] using hx)
 | y :: r, bl, h, hr, hb, x, hx => by
   unfold blockFrom at hx
   split at hx
   · rename_i o ho
     split at hx
     · exact blocked hcl r bl h (fun i hi => hr i (List.mem_cons_of_mem _ hi)) (fun i hi => hb i (List.mem_cons_of_mem _ hi)) x hx
     · rename_i hc
       refine blocked hcl r (y :: bl) (fun z hz => ?_) (fun i hi => hr i (List.mem_cons_of_mem _ hi)) (fun i hi => hb i (List.mem_cons_of_mem _ hi)) x hx
       rcases List.mem_cons.1 hz with rfl | hz
       · cases hl : memB z (lates ops) with
         | false => exact hr z (List.mem_cons_self ..) hl
         | true =>
           rw [hl] at hc
           simp only [Bool.true_and, Bool.not_eq_false'] at hc
           obtain ⟨q, hq, hqb⟩ := List.any_eq_true.1 hc
           have hqu := h q ((memB_iff q bl).1 hqb)
           rcases getD_bool (L := L) (hb z (List.mem_cons_self ..)) with h1 | h1
           · exact h1
           · have := closed_preds hcl ho h1 q hq
             have := getD_of_true this
             rw [hqu] at this; cases this
       · exact h z hz
   · exact h x hx
theorem waits {L : Array Bool} {bl r : List Nat} (hw : waitAll ops (lates ops) bl r = true) (hbl : ∀ x ∈ bl, L.getD x true = false) {y : Nat} (hy : y ∈ r) (hl : memB y (lates ops) = false) : y ∉ Region.ready .any ops L := by
 intro hr
 obtain ⟨_, o, ho, hp⟩ := ready_preds.1 hr
 have := List.all_eq_true.1 hw y hy
 simp only [hl, Bool.false_or, ho] at this
 obtain ⟨q, hq, hqb⟩ := List.any_eq_true.1 this
 have h1 := hbl q ((memB_iff q bl).1 hqb)
 have h2 := getD_of_true (hp q hq)
 rw [h1] at h2; cases h2
theorem lateApart_spec (h : lateApart ops = true) {i : Nat} (hi : memB i (lates ops) = true) : ∃ o, ops[i]? = some o ∧ o.dst.isSome = true ∧ (isA o = true → ∀ q ∈ preds o, memB q (lates ops) = false) ∧
   ∀ j p d, ops[j]? = some p → j ≠ i → p.dst = some d → p.dst ≠ o.dst ∧ (d ∈ o.looksAt ops → j ∈ preds o) := by
 have := List.all_eq_true.1 h i ((memB_iff i _).1 hi)
 cases ho : ops[i]? with
 | none => simp [ho] at this
 | some o =>
   simp only [ho, Bool.and_eq_true] at this
   obtain ⟨⟨h1, h2⟩, h3⟩ := this
   refine ⟨o, rfl, h1, fun ha q hq => ?_, fun j p d hp hne hd => ?_⟩
   · cases hm : memB q (lates ops) with
     | false => rfl
     | true =>
       simp only [Bool.not_eq_true'] at h2
       have := List.any_eq_false.1 h2 q hq
       simp [ha, hm] at this
   · have hj : j < ops.size := (Array.getElem?_eq_some_iff.1 hp).1
     have := List.all_eq_true.1 h3 j (List.mem_range.2 hj)
     have hjb : Nat.beq j i = false := by
       cases hb : Nat.beq j i with
       | false => rfl
       | true => exact absurd (Nat.eq_of_beq_eq_true hb) hne
     simp only [hjb, Bool.false_or, hp, hd, Bool.and_eq_true, bne_iff_ne, ne_eq, Bool.or_eq_true, Bool.not_eq_true'] at this
     refine ⟨by rw [hd]; exact this.1, fun hl => ?_⟩
     rcases this.2 with h4 | h4
     · have : (o.looksAt ops).contains d = true := by simpa using hl
       rw [h4] at this; cases this
     · exact (memB_iff _ _).1 h4
end
end Go.Vc
namespace Go.Vc
open Go Go.RowKit
section
variable {C : Cfg} {n : Nat} {ops : Array Oper} {k : Env → World → Prop}
theorem put_getD_ne {a : Act} {dst : Option Tmp} {v : Value} {t : Nat} (h : dst ≠ some t) : (a.put dst v).tmps.getD t undef = a.tmps.getD t undef := by
 cases dst with
 | none => rfl
 | some d =>
   have : d ≠ t := fun he => h (by rw [he])
   simp [Act.put, this]
theorem put_getD_eq {a : Act} {d : Nat} {v : Value} (h : d < a.tmps.size) : (a.put (some d) v).tmps.getD d undef = v := by
 simp [Act.put, h]
theorem Fits.know {e : Env} {a : Act} (h : Fits n e a) {d : Nat} {s : SV} {v : Value} (hd : d < n) (hs : s.den = some v) (hv : a.tmps.getD d undef = v) : Fits n (e.put d s) a := by
 refine ⟨h.defers, h.size, fun t u hu => ?_⟩
 unfold Env.put at hu
 cases hb : Nat.beq t d with
 | true =>
   rw [hb] at hu
   have := Nat.eq_of_beq_eq_true hb
   subst this
   simp only at hu
   rw [hs] at hu
   injection hu with hu
   exact ⟨hd, by rw [hv, hu]⟩
 | false => rw [hb] at hu; exact h.tmp t u hu
theorem Fits.unknown {e : Env} {a : Act} (h : Fits n e a) {dst : Option Tmp} {v : Value} (hd : ∀ d, dst = some d → e d = .no) : Fits n e (a.put dst v) := by
 refine ⟨?_, ?_, fun t u hu => ?_⟩
 · cases dst <;> exact h.defers
 · cases dst with
   | none => exact h.size
   | some d => simp [Act.put, h.size]
 · have := h.tmp t u hu
   refine ⟨this.1, ?_⟩
   rw [put_getD_ne (fun he => by rw [hd t he] at hu; cases hu)]
   exact this.2
theorem lateFrom_spec : ∀ (l : List Oper) (i : Nat) (acc : List Nat), (∀ j, l[j]? = ops[i + j]?) → (∀ x ∈ acc, ∃ o, ops[x]? = some o ∧ (isA o = true ∨ ∃ b, isM ops b o = true)) →
   ∀ x ∈ lateFrom ops i l acc, ∃ o, ops[x]? = some o ∧ (isA o = true ∨ ∃ b, isM ops b o = true)
 | [], i, acc, _, ha, x, hx => ha x hx
 | o :: r, i, acc, hl, ha, x, hx => by
   unfold lateFrom at hx
   have hr : ∀ j, r[j]? = ops[i + 1 + j]? := fun j => by have := hl (j + 1); simpa [Nat.add_assoc, Nat.add_comm 1 j] using this
   have ho : ops[i]? = some o := by have := hl 0; simpa using this.symm
   split at hx
   · rename_i hc
     refine lateFrom_spec r (i + 1) (i :: acc) hr (fun y hy => ?_) x hx
     rcases List.mem_cons.1 hy with rfl | hy
     · refine ⟨o, ho, ?_⟩
       simp only [Bool.or_eq_true] at hc
       exact hc.imp id (fun h => ⟨acc, h⟩)
     · exact ha y hy
   · exact lateFrom_spec r (i + 1) acc hr ha x hx
theorem lates_spec {x : Nat} (h : memB x (lates ops) = true) : ∃ o, ops[x]? = some o ∧ (isA o = true ∨ (o.guard = none ∧ ∃ t, o.op = .move (.tmp t))) := by
 obtain ⟨o, ho, h⟩ := lateFrom_spec (ops := ops) ops.toList 0 [] (by simp) (fun _ hx => (List.not_mem_nil hx).elim) x ((memB_iff _ _).1 h)
 refine ⟨o, ho, h.imp id ?_⟩
 rintro ⟨b, hb⟩
 unfold isM at hb
 split at hb
 · rename_i t hg hop; exact ⟨hg, t, hop⟩
 · cases hb
theorem isA_guard {o : Oper} (h : isA o = true) : o.guard = none := by
 unfold isA at h
 split at h <;> first | assumption | cases h
theorem looks_move {o : Oper} {t : Nat} (h : o.op = .move (.tmp t)) : t ∈ o.looksAt ops :=
 List.mem_append_left _ (List.mem_filterMap.2 ⟨.tmp t, by rw [h]; simp [Op.operands], rfl⟩)
theorem dstLt_spec (h : dstLt n ops = true) {i : Nat} {o : Oper} (hi : ops[i]? = some o) {d : Nat} (hd : o.dst = some d) : d < n := by
 have := List.all_eq_true.1 h o (by simpa using Array.mem_of_getElem? hi)
 rw [hd] at this
 exact Nat.le_of_ble_eq_true this
variable {L : Array Bool} {a : Act} {w wb : World} {r : List Nat} {e : Env} {ivs : List (Nat × Nat)} {us : List Nat} {ea : List (Nat × Nat)}
/-- an operation that comes up turns nothing of what was made ahead -/
theorem XI.quiet (X : XI C n ops L a w r e wb ivs us ea) (hap : lateApart ops = true) {x : Nat} {ox : Oper} (hx : ops[x]? = some ox) (hun : L.getD x true = false) {p : Nat} {op : Oper}
   (hp : ops[p]? = some op) (hl : memB p (lates ops) = true) (hL : L.getD p false = true) : (∀ d, ox.dst = some d → d ∉ op.looksAt ops) ∧ (∀ d, op.dst = some d → ox.dst ≠ some d) := by
 have hne : x ≠ p := fun h => by
   have := getD_of_true hL
   rw [← h, hun] at this; cases this
 obtain ⟨o', ho', h1, h2, h3⟩ := lateApart_spec hap hl
 rw [hp] at ho'
 injection ho' with ho'
 subst ho'
 constructor
 · intro d hd hm
   have h4 := (h3 x ox d hx hne hd).2 hm
   have h5 := getD_of_true (closed_preds X.closed hp hL x h4)
   rw [hun] at h5; cases h5
 · intro d hd hd'
   exact (h3 x ox d hx hne hd').1 (by rw [hd', hd])
theorem XI.step {i : Nat} (X : XI C n ops L a w (i :: r) e wb ivs us ea) (hap : lateApart ops = true) {o : Oper} (hi : ops[i]? = some o) (hr : i ∈ Region.ready .any ops L)
   (hnl : memB i (lates ops) = false) {v : Value} {e' : Env} {w' wb' : World} {ivs' : List (Nat × Nat)} (hf : Fits n e' (a.put o.dst v))
   (hno : ∀ j ∈ r, memB j (lates ops) = true → ∀ p d, ops[j]? = some p → p.dst = some d → e' d = .no) (hext : Below wb'.heap.size wb' w') (hsz : w.heap.size ≤ w'.heap.size)
   (hheap : ∀ p ∈ ea, w'.heap[p.2]? = w.heap[p.2]?) (hiv : ∀ g, inIv ((wb.heap.size, w.heap.size) :: ivs) g → inIv ((wb'.heap.size, w'.heap.size) :: ivs') g) :
   XI C n ops (L.setIfInBounds i true) (a.put o.dst v) w' r e' wb' ivs' us ea where
 fits := hf
 ext := hext
 closed := X.closed.set hr
 rem := fun j hj hl => by
   have hne : i ≠ j := fun h => (List.nodup_cons.1 X.nodup).1 (h ▸ hj)
   rw [getD_set_ne true hne]
   exact X.rem j (List.mem_cons_of_mem _ hj) hl
 out := fun j hj hn => by
   by_cases h : i = j
   · subst h; exact ready_lt hr
   · exact getD_set_true (X.out j (by simpa using hj) (by simp [hn, Ne.symm h]))
 bnd := fun j hj => by simpa using X.bnd j (List.mem_cons_of_mem _ hj)
 no := hno
 eaA := fun p hp => by
   obtain ⟨h1, h2, op, t, cs, f, h3, h4, h5, h6, h7, h8, h9, h10⟩ := X.eaA p hp
   have hq := X.quiet hap hi (mem_ready.1 hr).1 h3 h4 h2
   refine ⟨?_, getD_set_true h2, op, t, cs, f, h3, h4, h5, ?_, ?_, ?_, hiv _ h9, h10⟩
   · rcases List.mem_cons.1 h1 with h | h
     · rw [h, hnl] at h4; cases h4
     · exact h
   · rw [aAct_put (ops := ops) hq.1]; exact h6
   · rw [hheap p hp]; exact h7
   · intro d hd; rw [put_getD_ne (hq.2 d hd)]; exact h8 d hd
 eaU := X.eaU
 lst := fun j hj hl hL p hp => by
   have hne : i ≠ j := fun h => by subst h; rw [hnl] at hl; cases hl
   have hL' : L.getD j false = true := by rw [getD_set_ne false hne] at hL; exact hL
   obtain ⟨h1, h2⟩ := X.lst j (List.mem_cons_of_mem _ hj) hl hL' p hp
   refine ⟨h1, fun ha => ?_⟩
   obtain ⟨t, d, h3, h4, h5, h6⟩ := h2 ha
   have hq := X.quiet hap hi (mem_ready.1 hr).1 hp hl hL'
   refine ⟨t, d, h3, h4, h5, ?_⟩
   rw [put_getD_ne (hq.2 d h5), put_getD_ne (fun hd => hq.1 t hd (looks_move h3))]
   exact h6
 nodup := (List.nodup_cons.1 X.nodup).2
 usI := fun g hg => Nat.lt_of_lt_of_le (X.usI g hg) hsz
theorem XI.early (X : XI C n ops L a w r e wb ivs us ea) (hap : lateApart ops = true) (hdl : dstLt n ops = true) {x : Nat} {o : Oper} (hx : ops[x]? = some o) (hr : x ∈ Region.ready .any ops L) (hxr : x ∈ r)
   (hl : memB x (lates ops) = true) {v : Value} {w' : World} {ea' : List (Nat × Nat)} (hext : Below wb.heap.size wb w') (hsz : w.heap.size ≤ w'.heap.size) (hheap : ∀ p ∈ ea, w'.heap[p.2]? = w.heap[p.2]?)
   (hiv : ∀ g, inIv ((wb.heap.size, w.heap.size) :: ivs) g → inIv ((wb.heap.size, w'.heap.size) :: ivs) g)
   (hea : ∀ p ∈ ea', p ∈ ea ∨ (p = (x, w.heap.size) ∧ isA o = true ∧ ∃ t cs f, aAct C.P (a.put o.dst v).eval o = some (t, cs, f) ∧ w'.heap[w.heap.size]? = some (.cells ⟨cs⟩ t (0, 0)) ∧ v = f w.heap.size ∧
     inIv ((wb.heap.size, w'.heap.size) :: ivs) w.heap.size))
   (hsub : ∀ p ∈ ea, p ∈ ea') (hnA : isA o = true → (x, w.heap.size) ∈ ea') (hnM : isA o = false → ∃ t, o.op = .move (.tmp t) ∧ o.guard = none ∧ v = a.tmps.getD t undef) :
   XI C n ops (L.setIfInBounds x true) (a.put o.dst v) w' r e wb ivs us ea' where
 fits := X.fits.unknown (fun d hd => X.no x hxr hl o d hx hd)
 ext := hext
 closed := X.closed.set hr
 rem := fun j hj hnl => by
   have hne : x ≠ j := fun h => by subst h; rw [hl] at hnl; cases hnl
   rw [getD_set_ne true hne]
   exact X.rem j hj hnl
 out := fun j hj hn => getD_set_true (X.out j (by simpa using hj) hn)
 bnd := fun j hj => by simpa using X.bnd j hj
 no := X.no
 eaA := fun p hp => by
   rcases hea p hp with hp | ⟨rfl, ha, t, cs, f, h1, h2, h3, h4⟩
   · obtain ⟨h1, h2, op, t, cs, f, h3, h4, h5, h6, h7, h8, h9, h10⟩ := X.eaA p hp
     have hq := X.quiet hap hx (mem_ready.1 hr).1 h3 h4 h2
     refine ⟨h1, getD_set_true h2, op, t, cs, f, h3, h4, h5, ?_, ?_, ?_, hiv _ h9, h10⟩
     · rw [aAct_put (ops := ops) hq.1]; exact h6
     · rw [hheap p hp]; exact h7
     · intro d hd; rw [put_getD_ne (hq.2 d hd)]; exact h8 d hd
   · refine ⟨hxr, ready_lt hr, o, t, cs, f, hx, hl, ha, h1, h2, fun d hd => ?_, h4, fun hu => Nat.lt_irrefl _ (X.usI _ hu)⟩
     have hlt : d < a.tmps.size := by rw [X.fits.size]; exact dstLt_spec hdl hx hd
     rw [hd, put_getD_eq hlt]
     exact h3
 eaU := fun p hp q hq heq => by
   have hold : ∀ p ∈ ea, p.2 < w.heap.size := fun p hp => by
     obtain ⟨_, _, _, _, _, _, _, _, _, _, h7, _⟩ := X.eaA p hp
     exact (Array.getElem?_eq_some_iff.1 h7).1
   rcases hea p hp with hp | ⟨rfl, _⟩ <;> rcases hea q hq with hq | ⟨rfl, _⟩
   · exact X.eaU p hp q hq heq
   · have := hold p hp; simp only at heq; omega
   · have := hold q hq; simp only at heq; omega
   · rfl
 lst := fun j hj hlj hL p hp => by
   by_cases hne : x = j
   · subst hne
     rw [hx] at hp
     injection hp with hp
     subst hp
     refine ⟨fun ha => ⟨_, hnA ha⟩, fun ha => ?_⟩
     obtain ⟨t, h1, h2, h3⟩ := hnM ha
     obtain ⟨o', ho', h4, _⟩ := lateApart_spec hap hl
     rw [hx] at ho'
     injection ho' with ho'
     subst ho'
     obtain ⟨d, hd⟩ := Option.isSome_iff_exists.1 h4
     have hlt : d < a.tmps.size := by rw [X.fits.size]; exact dstLt_spec hdl hx hd
     refine ⟨t, d, h1, h2, hd, ?_⟩
     rw [hd, put_getD_eq hlt]
     by_cases htd : d = t
     · subst htd; rw [put_getD_eq hlt]
     · rw [put_getD_ne (fun h => htd (by injection h))]; exact h3
   · have hL' : L.getD j false = true := by rw [getD_set_ne false hne] at hL; exact hL
     obtain ⟨h1, h2⟩ := X.lst j hj hlj hL' p hp
     refine ⟨fun ha => ?_, fun ha => ?_⟩
     · obtain ⟨g, hg⟩ := h1 ha; exact ⟨g, hsub _ hg⟩
     · obtain ⟨t, d, h3, h4, h5, h6⟩ := h2 ha
       have hq := X.quiet hap hx (mem_ready.1 hr).1 hp hlj hL'
       refine ⟨t, d, h3, h4, h5, ?_⟩
       rw [put_getD_ne (hq.2 d h5), put_getD_ne (fun hd => hq.1 t hd (looks_move h3))]
       exact h6
 nodup := X.nodup
 usI := fun g hg => Nat.lt_of_lt_of_le (X.usI g hg) hsz
/-- the next one in the order was made ahead already -/
theorem XI.adv {i : Nat} (X : XI C n ops L a w (i :: r) e wb ivs us ea) {e' : Env} {wb' : World} {ivs' : List (Nat × Nat)} {us' : List Nat} {ea' : List (Nat × Nat)} (hli : L.getD i false = true)
   (hf : Fits n e' a) (hno : ∀ j ∈ r, memB j (lates ops) = true → ∀ p d, ops[j]? = some p → p.dst = some d → e' d = .no) (hext : Below wb'.heap.size wb' w)
   (hiv : ∀ g, inIv ((wb.heap.size, w.heap.size) :: ivs) g → inIv ((wb'.heap.size, w.heap.size) :: ivs') g) (hea : ∀ p ∈ ea', p ∈ ea ∧ p.1 ≠ i ∧ (p.2 ∉ us → p.2 ∉ us'))
   (hsub : ∀ p ∈ ea, p.1 ≠ i → p ∈ ea') (hus : ∀ g ∈ us', g < w.heap.size) : XI C n ops L a w r e' wb' ivs' us' ea' where
 fits := hf
 ext := hext
 closed := X.closed
 rem := fun j hj hl => X.rem j (List.mem_cons_of_mem _ hj) hl
 out := fun j hj hn => by
   by_cases h : i = j
   · subst h; exact hli
   · exact X.out j hj (by simp [hn, Ne.symm h])
 bnd := fun j hj => X.bnd j (List.mem_cons_of_mem _ hj)
 no := hno
 eaA := fun p hp => by
   obtain ⟨hp, hne, hu⟩ := hea p hp
   obtain ⟨h1, h2, op, t, cs, f, h3, h4, h5, h6, h7, h8, h9, h10⟩ := X.eaA p hp
   exact ⟨(List.mem_cons.1 h1).resolve_left hne, h2, op, t, cs, f, h3, h4, h5, h6, h7, h8, hiv _ h9, hu h10⟩
 eaU := fun p hp q hq => X.eaU p (hea p hp).1 q (hea q hq).1
 lst := fun j hj hl hL p hp => by
   obtain ⟨h1, h2⟩ := X.lst j (List.mem_cons_of_mem _ hj) hl hL p hp
   refine ⟨fun ha => ?_, h2⟩
   obtain ⟨g, hg⟩ := h1 ha
   exact ⟨g, hsub _ hg (fun h => (List.nodup_cons.1 X.nodup).1 (by simp only at h; rw [← h]; exact hj))⟩
 nodup := (List.nodup_cons.1 X.nodup).2
 usI := hus
end
end Go.Vc
namespace Go.Vc
open Go Go.RowKit
section
variable {C : Cfg} {n : Nat} {ops : Array Oper} {k : Env → World → Prop}
theorem below_alloc (w : World) (o : Obj) : Below w.heap.size w (w.alloc o) := (Below.refl _ _).alloc (Nat.le_refl _) o
theorem inIv_more {lo hi hi' : Nat} {l : List (Nat × Nat)} (h : hi ≤ hi') {g : Nat} (hg : inIv ((lo, hi) :: l) g) : inIv ((lo, hi') :: l) g :=
 hg.imp (fun ⟨h1, h2⟩ => ⟨h1, Nat.lt_of_lt_of_le h2 h⟩) id
theorem putD_sound' {dst : Option Tmp} {s : SV} {v : Value} {e : Env} {a : Act} {K : Env → Prop} {ds : List Nat} (hf : Fits n e a) (hs : s.den = some v) (hd : ∀ d, dst = some d → d ∈ ds) (h : putD n dst s e K) :
   ∃ e', Fits n e' (a.put dst v) ∧ (∀ t, dst ≠ some t → e' t = e t) ∧ Agree ds e e' ∧ K e' := by
 unfold putD at h
 split at h
 · exact ⟨e, hf, fun _ _ => rfl, .refl _ _, h⟩
 · rename_i d
   split at h
   · rename_i hb
     have hlt : d < n := Nat.le_of_ble_eq_true hb
     refine ⟨_, hf.put hlt hs, fun t ht => ?_, .put (hd d rfl) s, h⟩
     unfold Env.put
     cases hb : Nat.beq t d with
     | true => exact absurd (by rw [Nat.eq_of_beq_eq_true hb]) ht
     | false => rfl
   · exact h.elim
theorem putD_know {dst : Option Tmp} {s : SV} {v : Value} {e : Env} {a : Act} {K : Env → Prop} {ds : List Nat} (hf : Fits n e a) (hs : s.den = some v) (hv : ∀ d, dst = some d → a.tmps.getD d undef = v)
   (hd : ∀ d, dst = some d → d ∈ ds) (h : putD n dst s e K) : ∃ e', Fits n e' a ∧ (∀ t, dst ≠ some t → e' t = e t) ∧ Agree ds e e' ∧ K e' := by
 unfold putD at h
 split at h
 · exact ⟨e, hf, fun _ _ => rfl, .refl _ _, h⟩
 · rename_i d
   split at h
   · rename_i hb
     have hlt : d < n := Nat.le_of_ble_eq_true hb
     refine ⟨_, hf.know hlt hs (hv d rfl), fun t ht => ?_, .put (hd d rfl) s, h⟩
     unfold Env.put
     cases hb : Nat.beq t d with
     | true => exact absurd (by rw [Nat.eq_of_beq_eq_true hb]) ht
     | false => rfl
   · exact h.elim
theorem vcX_sound (hC : CfgOk C) (hsel : Region.noSelect ops = true) (hap : lateApart ops = true) (hdl : dstLt n ops = true) {e0 : Env} :
   ∀ (m fuel : Nat) (r : List Nat) (Lc L : Array Bool) (e : Env) (a : Act) (w wb : World) (ivs : List (Nat × Nat)) (us : List Nat) (ea : List (Nat × Nat)) (fs : List (Nat × List (Addr × Value))),
     fuel + r.length < m → cnt L ≤ fuel → okX C.P ops r Lc = true → Lc.size = L.size → L.size = ops.size → (∀ j, j < L.size → (Lc.getD j false = true ↔ j ∉ r)) →
     XI C n ops L a w r e wb ivs us ea → SF C.P ops fs L w → Agree (dsts ops) e0 e → vcX C n ops k r e wb ivs us fs → wpAnyS C.P .any ops (Rq n (dsts ops) e0 k) (SF C.P ops fs) fuel L a w
 | 0, _, _, _, _, _, _, _, _, _, _, _, _, hm, _, _, _, _, _, _, _, _, _ => absurd hm (Nat.not_lt_zero _)
 | m + 1, fuel, [], Lc, L, e, a, w, wb, ivs, us, ea, fs, _, _, _, _, hsz, _, X, _, hag, h => by
   have hrdy : Region.ready .any ops L = [] := by
     apply List.eq_nil_iff_forall_not_mem.2
     intro j hj
     obtain ⟨h1, o, h2, _⟩ := mem_ready.1 hj
     have h3 := getD_of_true (X.out j (by rw [hsz]; exact (Array.getElem?_eq_some_iff.1 h2).1) (by simp))
     rw [h1] at h3; cases h3
   unfold vcX at h
   have hk := h w X.ext
   cases fuel with
   | zero => exact ⟨hrdy, e, X.fits, hag, hk⟩
   | succ f => exact ⟨fun _ => ⟨e, X.fits, hag, hk⟩, by rw [hrdy]; simp⟩
 | m + 1, fuel, i :: r, Lc, L, e, a, w, wb, ivs, us, ea, fs, hm, hcnt, hok, hszc, hsz, hcan, X, hS, hag, h => by
   have hib := X.bnd i (List.mem_cons_self ..)
   obtain ⟨o, hi⟩ : ∃ o, ops[i]? = some o := ⟨_, Array.getElem?_eq_getElem (hsz ▸ hib)⟩
   unfold okX at hok
   simp only [hi, Bool.and_eq_true] at hok
   obtain ⟨⟨hrc, hok1⟩, hok2⟩ := hok
   have hrc' : i ∈ Region.ready .any ops Lc := by simpa using hrc
   have hnd := List.nodup_cons.1 X.nodup
   have hcan' : ∀ j, j < L.size → ((Lc.setIfInBounds i true).getD j false = true ↔ j ∉ r) := fun j hj => by
     by_cases hij : i = j
     · subst hij; exact ⟨fun _ => hnd.1, fun _ => ready_lt hrc'⟩
     · rw [getD_set_ne false hij, hcan j hj]
       simp [Ne.symm hij]
   have hom : ∀ {x : Nat} {o : Oper}, ops[x]? = some o → ∀ d, o.dst = some d → d ∈ dsts ops := fun hx d hd => dsts_mem (by simpa using Array.mem_of_getElem? hx) hd
   have hno' : ∀ {e1 e' : Env}, (∀ t, e t = .no → e1 t = .no) → (∀ t, o.dst ≠ some t → e' t = e1 t) → ∀ j ∈ r, memB j (lates ops) = true → ∀ p d, ops[j]? = some p → p.dst = some d → e' d = .no := by
     intro e1 e' h1 he j hj hlj p d hp hpd
     have h0 := X.no j (List.mem_cons_of_mem _ hj) hlj p d hp hpd
     rw [he d ?_]
     · exact h1 d h0
     · intro hod
       obtain ⟨p', hp', _, _, h5⟩ := lateApart_spec hap hlj
       rw [hp] at hp'
       injection hp' with hp'
       subst hp'
       have hne : i ≠ j := fun hh => hnd.1 (hh ▸ hj)
       exact (h5 i o d hi hne hod).1 (by rw [hod, hpd])
   rcases getD_bool hib with hun | hli
   · -- it has not come up
     have hc1 := cnt_set hun
     obtain ⟨f, rfl⟩ : ∃ f, fuel = f + 1 := ⟨fuel - 1, by omega⟩
     have hri : i ∈ Region.ready .any ops L := ready_preds.2 ⟨hun, o, hi, fun q hq => by
       obtain ⟨_, o', ho', hp⟩ := ready_preds.1 hrc'
       rw [hi] at ho'
       injection ho' with ho'
       subst ho'
       have h1 := hp q hq
       have hlt : q < L.size := by
         rcases Nat.lt_or_ge q Lc.size with h' | h'
         · rw [← hszc]; exact h'
         · simp [Array.getElem?_eq_none h'] at h1
       exact X.out q hlt ((hcan q hlt).1 h1)⟩
     have hmem : ∀ x, x ∈ Region.ready .any ops L → x ∈ i :: r := fun x hx => by
       by_cases hxm : x ∈ i :: r
       · exact hxm
       · obtain ⟨h1, ox, h2, _⟩ := mem_ready.1 hx
         have h3 := getD_of_true (X.out x (by rw [hsz]; exact (Array.getElem?_eq_some_iff.1 h2).1) hxm)
         rw [h1] at h3; cases h3
     have hQ : ∀ (d : Option Tmp) v c (a : Act) w, Rq n (dsts ops) e0 k (.panic c) (a.put d v) w → Rq n (dsts ops) e0 k (.panic c) a w := fun _ _ _ _ _ h => h
     -- one that is made ahead comes up
     have early : aChk C.P ops e (i :: r) = true → ∀ x, x ∈ Region.ready .any ops L → memB x (lates ops) = true →
         wpOp C.P ops (Rq n (dsts ops) e0 k) x (fun a' w' => SF C.P ops fs (L.setIfInBounds x true) w' ∧ wpAnyS C.P .any ops (Rq n (dsts ops) e0 k) (SF C.P ops fs) f (L.setIfInBounds x true) a' w') a w := by
       intro hach x hx hl
       have hxr := hmem x hx
       obtain ⟨ox, hox, hkind⟩ := lates_spec hl
       have hxu := (mem_ready.1 hx).1
       have hcx := cnt_set hxu
       have hcanx : ∀ j, j < (L.setIfInBounds x true).size → (Lc.getD j false = true ↔ j ∉ i :: r) := fun j hj => hcan j (by simpa using hj)
       have hSm : ∀ w', (∀ cs : List (Addr × Value), Facts cs w → Facts cs w') → SF C.P ops fs (L.setIfInBounds x true) w' := fun w' hw' y hy hlive =>
         hw' _ (hS y hy (fun q oq hq hh hlq => hlive q oq hq hh (getD_set_true hlq)))
       have hok' : okX C.P ops (i :: r) Lc = true := by unfold okX; simp only [hi, Bool.and_eq_true]; exact ⟨⟨hrc, hok1⟩, hok2⟩
       unfold wpOp
       simp only [hox]
       cases hA : isA ox with
       | true =>
         have hg := isA_guard hA
         rw [if_pos (by simp [Region.wanted, hg])]
         obtain ⟨_, ox', hox', hpx⟩ := ready_preds.1 hx
         rw [hox] at hox'
         injection hox' with hox'
         subst hox'
         obtain ⟨ol, hol, _, hlp, _⟩ := lateApart_spec hap hl
         rw [hox] at hol
         injection hol with hol
         subst hol
         have hnp : (preds ox).any (fun q => memB q (i :: r)) = false := by
           cases hb : (preds ox).any (fun q => memB q (i :: r)) with
           | false => rfl
           | true =>
             obtain ⟨q, hq, hqm⟩ := List.any_eq_true.1 hb
             have h1 := X.rem q ((memB_iff _ _).1 hqm) (hlp hA q hq)
             have h2 := getD_of_true (hpx q hq)
             rw [h1] at h2; cases h2
         have hs := List.all_eq_true.1 hach x hxr
         simp only [hox, hA, hnp] at hs
         obtain ⟨⟨t, cs, mk⟩, hmk⟩ := Option.isSome_iff_exists.1 hs
         obtain ⟨_, hden⟩ := aOf_act X.fits hmk
         have hrun := aOf_run X.fits hmk w
         have hf' : Fits n e (a.put ox.dst (mk w.heap.size).v) := X.fits.unknown (fun d hd => X.no x hxr hl ox d hox hd)
         have hact := (aOf_act hf' hmk).1
         have hbl := below_alloc w (.cells ⟨cs⟩ t)
         have hszw : (w.alloc (.cells ⟨cs⟩ t)).heap.size = w.heap.size + 1 := by simp
         have X' := X.early hap hdl hox hx hxr hl (v := (mk w.heap.size).v) (w' := w.alloc (.cells ⟨cs⟩ t)) (ea' := (x, w.heap.size) :: ea)
           (X.ext.trans (hbl.mono X.ext.size)) (by omega)
           (fun p hp => by
             obtain ⟨_, _, _, _, _, _, _, _, _, _, h7, _⟩ := X.eaA p hp
             exact hbl.block _ (Array.getElem?_eq_some_iff.1 h7).1)
           (fun g hg => inIv_more (by omega) hg)
           (fun p hp => by
             rcases List.mem_cons.1 hp with rfl | hp
             · refine .inr ⟨rfl, hA, t, cs, _, hact, ?_, rfl, .inl ⟨X.ext.size, by omega⟩⟩
               show (w.heap.push _)[w.heap.size]? = _
               simp
             · exact .inl hp)
           (fun p hp => List.mem_cons_of_mem _ hp) (fun _ => List.mem_cons_self ..) (fun h => by rw [hA] at h; cases h)
         refine .inl ?_
         unfold Oper.wp
         rw [hrun]
         have hSx : SF C.P ops fs (L.setIfInBounds x true) (w.alloc (.cells ⟨cs⟩ t)) := hSm _ (fun cs' hcs p hp => by
           rw [← hcs p hp]
           have hlt : p.1.block < w.heap.size := by
             have := hcs p hp
             rcases Nat.lt_or_ge p.1.block w.heap.size with h' | h'
             · exact h'
             · simp [World.cell?, Array.getElem?_eq_none h'] at this
           exact hbl.cell hlt)
         exact ⟨hSx, vcX_sound hC hsel hap hdl m f (i :: r) Lc _ e _ _ wb ivs us _ fs (by simp only [List.length_cons] at hm ⊢; omega) (by omega) hok' (by simpa using hszc) (by simpa using hsz) hcanx X' hSx hag h⟩
       | false =>
         obtain ⟨hg, t, hop⟩ := hkind.resolve_left (by rw [hA]; simp)
         rw [if_pos (by simp [Region.wanted, hg])]
         refine .inl ?_
         have hrun : (execOp a.eval ox).run C.P w = .ok (.value (a.tmps.getD t undef)) w := by
           simp [execOp, hop, Act.eval]
         unfold Oper.wp
         rw [hrun]
         have X' := X.early hap hdl hox hx hxr hl (v := a.tmps.getD t undef) (w' := w) (ea' := ea) X.ext (Nat.le_refl _) (fun _ _ => rfl) (fun _ hg => hg) (fun p hp => .inl hp) (fun p hp => hp)
           (fun h => by rw [hA] at h; cases h) (fun _ => ⟨t, hop, hg, rfl⟩)
         have hSx : SF C.P ops fs (L.setIfInBounds x true) w := hSm _ (fun _ h => h)
         exact ⟨hSx, vcX_sound hC hsel hap hdl m f (i :: r) Lc _ e _ _ wb ivs us _ fs (by simp only [List.length_cons] at hm ⊢; omega) (by omega) hok' (by simpa using hszc) (by simpa using hsz) hcanx X' hSx hag h⟩
     cases hl : memB i (lates ops) with
     | true =>
       -- it is one of those itself
       have hach : aChk C.P ops e (i :: r) = true := by
         unfold vcX at h
         simp only [hi, hl] at h
         cases hA : isA o with
         | true => simp only [hA] at h; split at h <;> first | assumption | exact h.elim
         | false => simp only [hA] at h; split at h <;> first | assumption | exact h.elim
       simp only [hl] at hok1
       refine ⟨fun h0 => (by rw [h0] at hri; cases hri), fun x hx => ?_⟩
       refine early hach x hx ?_
       rcases List.mem_cons.1 (hmem x hx) with rfl | hxr
       · exact hl
       · cases hlx : memB x (lates ops) with
         | true => rfl
         | false =>
           exact absurd hx (waits hok1 (blocked X.closed r [i] (fun y hy => by simp only [List.mem_singleton] at hy; subst hy; exact hun) (fun j hj => X.rem j (List.mem_cons_of_mem _ hj))
             (fun j hj => X.bnd j (List.mem_cons_of_mem _ hj))) hxr hlx)
     | false =>
       unfold vcX at h
       simp only [hi, hl] at h
       have hdst := hom hi
       have first : ∀ (fs' : List (Nat × List (Addr × Value))) (v : Value) (e' : Env), ¬ isHop C.P o → (∀ x ∈ fs, x ∈ fs') → SF C.P ops fs' L w →
           YieldsIf C.P ops (fun w => ∃ L, Closed .any ops L ∧ L.getD i true = false ∧ SF C.P ops fs' L w) o v a →
           Fits n e' (a.put o.dst v) → (∀ j ∈ r, memB j (lates ops) = true → ∀ p d, ops[j]? = some p → p.dst = some d → e' d = .no) → Agree (dsts ops) e0 e' → vcX C n ops k r e' wb ivs us fs' →
           wpAnyS C.P .any ops (Rq n (dsts ops) e0 k) (SF C.P ops fs) (f + 1) L a w := by
         intro fs' v e' hP hsub hS' hy hf' hn' hag' hv
         have hb : (isP C.P o.op || isL C.P o.op) = true := by
           cases hb : (isP C.P o.op || isL C.P o.op) with
           | true => rfl
           | false => exact absurd hb hP
         simp only [hl, hb] at hok1
         refine wpAnyS_weaken (S := SF C.P ops fs') (fun L w hs => SF_sub hsub hs) _ _ _ _ ?_
         refine wpAnyS_first hi (Region.noSelect_spec hsel) (hQ _ v) (SF_set hi hP fs') f L a w (fun j oj hj hne hju hno => Region.free_spec hi hok1 j oj hj hne ?_ hno) hri X.closed hy hS' ?_
         · have hjl : j < L.size := by rw [hsz]; exact (Array.getElem?_eq_some_iff.1 hj).1
           rcases getD_bool (L := Lc) (hszc ▸ hjl) with h' | h'
           · exact h'
           · have := getD_of_true (X.out j hjl ((hcan j hjl).1 h'))
             rw [hju] at this; cases this
         · exact vcX_sound hC hsel hap hdl m f r _ _ e' _ w wb ivs us ea fs' (by simp only [List.length_cons] at hm; omega) (by omega) hok2 (by simpa using hszc) (by simpa using hsz) (by simpa using hcan')
             (X.step hap hi hri hl hf' hn' X.ext (Nat.le_refl _) (fun _ _ => rfl) (fun _ hg => hg)) ((SF_set hi hP fs' L w).2 hS') hag' hv
       split at h
       · rename_i hp
         have hP : ¬ isHop C.P o := by simp [isHop, hp]
         obtain ⟨e1, hf1, hag1, hn1, hw⟩ := wantV_sound' X.fits h
         rcases hw with ⟨hw, hx⟩ | ⟨hw, hx⟩
         · obtain ⟨sv, v, hk, hden, hrun⟩ := vcP_sound hC hf1 hx
           obtain ⟨e', hf', hsame, hag2, hv⟩ := putD_sound' hf1 hden hdst hk
           exact first fs v e' hP (fun _ h => h) hS (.inl ⟨hw, fun w _ => hrun w⟩) hf' (hno' hn1 hsame) ((hag.trans hag1).trans hag2) hv
         · obtain ⟨e', hf', hsame, hag2, hv⟩ := putD_sound' (v := undef) hf1 rfl hdst hx
           exact first fs undef e' hP (fun _ h => h) hS (.inr ⟨hw, rfl⟩) hf' (hno' hn1 hsame) ((hag.trans hag1).trans hag2) hv
       · rename_i hp hL
         have hP : ¬ isHop C.P o := by simp [isHop, hL]
         obtain ⟨e1, hf1, hag1, hn1, hw⟩ := wantV_sound' X.fits h
         rcases hw with ⟨hw, hx⟩ | ⟨hw, hx⟩
         · split at hx
           · rename_i t x hop
             obtain ⟨sv, v, cs, hk, hden, hfs, hrun⟩ := vcLoad_sound hx
             have hxe : a.eval x = (ev e1 x).v := hf1.ev_v rfl (fun hn => by rw [hn] at hx; unfold vcLoad at hx; split at hx <;> simp_all)
             obtain ⟨e', hf', hsame, hag2, hv⟩ := putD_sound' hf1 hden hdst hk
             refine first ((i, cs) :: fs) v e' hP (fun _ h => List.mem_cons_of_mem _ h) ?_ (.inl ⟨hw, fun w' hw' => ?_⟩) hf' (hno' hn1 hsame) ((hag.trans hag1).trans hag2) hv
             · intro y hy hlive
               rcases List.mem_cons.1 hy with rfl | hy
               · intro p hp
                 rw [← hfs p hp]
                 have hlt : p.1.block < wb.heap.size := by
                   have := hfs p hp
                   rcases Nat.lt_or_ge p.1.block wb.heap.size with h' | h'
                   · exact h'
                   · simp [World.cell?, Array.getElem?_eq_none h'] at this
                 exact X.ext.cell hlt
               · exact hS y hy hlive
             · obtain ⟨L', hcl', hun', hs'⟩ := hw'
               have : Facts cs w' := hs' (i, cs) (List.mem_cons_self ..) (live_unlisted hcl' hun')
               simp only [execOp, hop, hxe, Sem.run_bind, hrun w' this, Result.andThen_ok, Sem.run_pure]
           · rename_i src dst x hop
             rw [hop] at hL
             obtain ⟨e2, u1, u2, u3⟩ := isL_convert hL
             obtain ⟨sv, v, cs, hk, hden, hfs, hrun⟩ := vcCv_sound u1 u2 u3 hx
             have hxe : a.eval x = (ev e1 x).v := hf1.ev_v rfl (fun hn => by rw [hn] at hx; unfold vcCv at hx; split at hx <;> simp_all)
             obtain ⟨e', hf', hsame, hag2, hv⟩ := putD_sound' hf1 hden hdst hk
             refine first ((i, cs) :: fs) v e' hP (fun _ h => List.mem_cons_of_mem _ h) ?_ (.inl ⟨hw, fun w' hw' => ?_⟩) hf' (hno' hn1 hsame) ((hag.trans hag1).trans hag2) hv
             · intro y hy hlive
               rcases List.mem_cons.1 hy with rfl | hy
               · intro p hp
                 rw [← hfs p hp]
                 have hlt : p.1.block < wb.heap.size := by
                   have := hfs p hp
                   rcases Nat.lt_or_ge p.1.block wb.heap.size with h' | h'
                   · exact h'
                   · simp [World.cell?, Array.getElem?_eq_none h'] at this
                 exact X.ext.cell hlt
               · exact hS y hy hlive
             · obtain ⟨L', hcl', hun', hs'⟩ := hw'
               have : Facts cs w' := hs' (i, cs) (List.mem_cons_self ..) (live_unlisted hcl' hun')
               simp only [execOp, hop, hxe, Sem.run_bind, hrun w' this, Result.andThen_ok, Sem.run_pure]
           · exact hx.elim
         · obtain ⟨e', hf', hsame, hag2, hv⟩ := putD_sound' (v := undef) hf1 rfl hdst hx
           exact first fs undef e' hP (fun _ h => h) hS (.inr ⟨hw, rfl⟩) hf' (hno' hn1 hsame) ((hag.trans hag1).trans hag2) hv
       · rename_i hp hL
         have hH : isHop C.P o := by simp [isHop, hp, hL]
         have hb : (isP C.P o.op || isL C.P o.op) = false := hH
         simp only [hl, hb] at hok1
         split at h
         · rename_i hach
           refine ⟨fun h0 => (by rw [h0] at hri; cases hri), fun x hx => ?_⟩
           cases hlx : memB x (lates ops) with
           | true => exact early hach x hx hlx
           | false =>
             have hxi : x = i := by
               rcases List.mem_cons.1 (hmem x hx) with h' | hxr
               · exact h'
               · exact absurd hx (waits hok1 (blocked X.closed r [i] (fun y hy => by simp only [List.mem_singleton] at hy; subst hy; exact hun) (fun j hj => X.rem j (List.mem_cons_of_mem _ hj))
                   (fun j hj => X.bnd j (List.mem_cons_of_mem _ hj))) hxr hlx)
             subst hxi
             have behind : ∀ (v : Value) (sv : SV) (e1 : Env) (w' : World), Fits n e1 a → (∀ t, e t = .no → e1 t = .no) → Agree (dsts ops) e0 e1 → sv.den = some v → Keep ((wb.heap.size, w.heap.size) :: ivs) us w w' →
                 stab o w' fs (putD n o.dst sv e1 fun e' => vcX C n ops k r e' w' ((wb.heap.size, w.heap.size) :: ivs) us (dropF o fs)) →
                 SF C.P ops fs (L.setIfInBounds x true) w' ∧ wpAnyS C.P .any ops (Rq n (dsts ops) e0 k) (SF C.P ops fs) f (L.setIfInBounds x true) (a.put o.dst v) w' := by
               intro v sv e1 w' hf1 hn1 hag1 hden hkeep hst
               obtain ⟨hst1, hst2⟩ := stab_spec fs hst
               obtain ⟨e', hf', hsame, hag2, hv⟩ := putD_sound' hf1 hden hdst hst2
               have hli := ready_lt hri
               have hS' : SF C.P ops fs (L.setIfInBounds x true) w' := SF_hop hi hH hli hst1
               refine ⟨hS', ?_⟩
               refine wpAnyS_mono (S := SF C.P ops (dropF o fs)) (i := x) (fun L' w'' hl' hs' => ?_) _ _ _ _ hli
                 (vcX_sound hC hsel hap hdl m f r _ _ e' _ w' w' _ us ea (dropF o fs) (by simp only [List.length_cons] at hm; omega) (by omega) hok2 (by simpa using hszc) (by simpa using hsz) (by simpa using hcan')
                   (X.step hap hi hri hl hf' (hno' hn1 hsame) (Below.refl _ _) hkeep.1 (fun p hp => ?_) (fun g hg => .inr hg)) (SF_sub (dropF_mem fs) hS') (hag1.trans hag2) hv)
               · intro y hy hlive
                 exact hs' y (mem_dropF fs y hy (afterB_false (hlive x o hi hH hl'))) hlive
               · obtain ⟨_, _, _, _, _, _, _, _, _, _, _, _, h9, h10⟩ := X.eaA p hp
                 exact hkeep.2 _ h9 h10
             obtain ⟨e1, hf1, hag1, hn1, hw⟩ := wantV_sound' X.fits (h w X.ext)
             unfold wpOp
             simp only [hi]
             rcases hw with ⟨hw, hx⟩ | ⟨hw, hx⟩
             · rw [if_pos hw]
               refine .inl (Oper.wp_mono ?_ (vcH_sound hC hf1 hx))
               rintro a' w' ⟨sv, v, rfl, hden, hk⟩
               exact behind v sv e1 w' hf1 hn1 (hag.trans hag1) hden hk.1 hk.2
             · rw [if_neg (by simp [hw])]
               exact behind undef (.val undef) e1 w hf1 hn1 (hag.trans hag1) rfl ⟨Nat.le_refl _, fun _ _ _ => rfl⟩ hx
         · exact h.elim
   · -- it was made ahead
     have hl : memB i (lates ops) = true := by
       cases hh : memB i (lates ops) with
       | true => rfl
       | false =>
         have := getD_of_true hli
         rw [X.rem i (List.mem_cons_self ..) hh] at this; cases this
     unfold vcX at h
     simp only [hi, hl] at h
     obtain ⟨h1, h2⟩ := X.lst i (List.mem_cons_self ..) hl hli o hi
     have hdst := hom hi
     cases hA : isA o with
     | true =>
       simp only [hA] at h
       split at h
       · rename_i t cs mk hach hmk
         obtain ⟨g, hg⟩ := h1 hA
         obtain ⟨_, _, o', t', cs', f', ho', _, _, hact', hheap, htmp, hiv, hnu⟩ := X.eaA _ hg
         rw [hi] at ho'
         injection ho' with ho'
         subst ho'
         obtain ⟨hact, hden⟩ := aOf_act X.fits hmk
         rw [hact] at hact'
         simp only [Option.some.injEq, Prod.mk.injEq] at hact'
         obtain ⟨rfl, rfl, rfl⟩ := hact'
         have hx := h w g X.ext hiv hnu hheap
         obtain ⟨e', hf', hsame, hag2, hv⟩ := putD_know X.fits (hden g) htmp hdst hx
         refine vcX_sound hC hsel hap hdl m fuel r _ L e' a w w _ (g :: us) (ea.filter fun p => p.1 != i) fs (by simp only [List.length_cons] at hm; omega) hcnt hok2 (by simpa using hszc) hsz hcan'
           (X.adv hli hf' (hno' (fun _ h => h) hsame) (Below.refl _ _) (fun _ hg => .inr hg) (fun p hp => ?_) (fun p hp hne => List.mem_filter.2 ⟨hp, by simpa using hne⟩) (fun g' hg' => ?_)) hS (hag.trans hag2) hv
         · obtain ⟨hp, hne⟩ := List.mem_filter.1 hp
           have hne : p.1 ≠ i := by simpa using hne
           refine ⟨hp, hne, fun hu hm => ?_⟩
           rcases List.mem_cons.1 hm with h' | h'
           · exact hne (X.eaU p hp (i, g) hg h')
           · exact hu h'
         · rcases List.mem_cons.1 hg' with h' | h'
           · rw [h']; exact (Array.getElem?_eq_some_iff.1 hheap).1
           · exact X.usI _ h'
       · exact h.elim
     | false =>
       simp only [hA] at h
       split at h
       · obtain ⟨t, d, hop, hgd, hd, htd⟩ := h2 hA
         obtain ⟨sv, v, hk, hden, hrun⟩ := vcP_sound hC X.fits h
         have hv1 : v = a.tmps.getD t undef := by
           have h3 := hrun w
           have h4 : (execOp a.eval o).run C.P w = .ok (.value (a.tmps.getD t undef)) w := by simp [execOp, hop, Act.eval]
           rw [h4] at h3
           injection h3 with h3
           injection h3 with h3
           exact h3.symm
         obtain ⟨e', hf', hsame, hag2, hv⟩ := putD_know X.fits hden (fun d' hd' => by rw [hd] at hd'; injection hd' with hd'; rw [← hd', hv1, htd]) hdst hk
         have hnei : ∀ p ∈ ea, p.1 ≠ i := fun p hp hpi => by
           obtain ⟨_, _, op, _, _, _, h3, _, h5, _⟩ := X.eaA p hp
           rw [hpi, hi] at h3
           injection h3 with h3
           rw [← h3, hA] at h5
           cases h5
         exact vcX_sound hC hsel hap hdl m fuel r _ L e' a w wb ivs us ea fs (by simp only [List.length_cons] at hm; omega) hcnt hok2 (by simpa using hszc) hsz hcan'
           (X.adv hli hf' (hno' (fun _ h => h) hsame) X.ext (fun _ hg => hg) (fun p hp => ⟨hp, hnei p hp, id⟩) (fun p hp _ => hp) X.usI) hS (hag.trans hag2) hv
       · exact h.elim
theorem nodupB_spec : ∀ {l : List Nat}, nodupB l = true → l.Nodup
 | [], _ => List.nodup_nil
 | x :: r, h => by
   simp only [nodupB, Bool.and_eq_true, Bool.not_eq_true'] at h
   refine List.nodup_cons.2 ⟨fun hm => ?_, nodupB_spec h.2⟩
   rw [(memB_iff _ _).2 hm] at h
   cases h.1
theorem region_X_sound (hC : CfgOk C) {id : Nat} {e : Env} {a : Act} {w : World} (hx : xChk n C.P ops = true) (hno : lateNo ops e = true) (hf : Fits n e a)
   (h : vcX C n ops k (ordX C.P ops) e w.drew [] [] []) : (Code.region id ops true).wp C.P (Rq n (dsts ops) e k) a w := by
 unfold xChk at hx
 simp only [Bool.and_eq_true] at hx
 obtain ⟨⟨hsel, hdl⟩, hap, ⟨⟨hnd, hin⟩, hall⟩, hok⟩ := hx
 refine wp_region_any hC.mixed (wpAny_of_S (S := SF C.P ops []) _ _ _ _ ?_)
 have hcl : Closed .any ops (Array.replicate ops.size false) := by
   intro q oq hq hl
   exfalso
   have hlt : q < ops.size := (Array.getElem?_eq_some_iff.1 hq).1
   simp [hlt] at hl
 have hmem : ∀ j, j < ops.size → j ∈ ordX C.P ops := fun j hj => (memB_iff _ _).1 (List.all_eq_true.1 hall j (List.mem_range.2 hj))
 refine vcX_sound hC hsel hap hdl _ ops.size (ordX C.P ops) _ _ e a w.drew w.drew [] [] [] [] (Nat.lt_succ_self _) ?_ hok rfl (by simp) (fun j hj => ?_) ?_ (fun x hx => (List.not_mem_nil hx).elim) (.refl _ _) h
 · unfold cnt
   simp
 · have hj' : j < ops.size := by simpa using hj
   simp [hj', hmem j hj']
 · refine ⟨hf, Below.refl _ _, hcl, fun i hi _ => ?_, fun i hi hn => absurd (hmem i (by simpa using hi)) hn, fun i hi => ?_, fun i _ hl o d ho hd => ?_, fun p hp => (List.not_mem_nil hp).elim, fun p hp => (List.not_mem_nil hp).elim,
     fun i _ _ hl => ?_, nodupB_spec hnd, fun g hg => (List.not_mem_nil hg).elim⟩
   · have := Nat.le_of_ble_eq_true (List.all_eq_true.1 hin i hi)
     have hlt : i < ops.size := this
     simp [hlt]
   · have hlt : i < ops.size := Nat.le_of_ble_eq_true (List.all_eq_true.1 hin i hi)
     simpa using hlt
   · have := List.all_eq_true.1 hno i ((memB_iff _ _).1 hl)
     simp only [ho, hd] at this
     unfold slotNo at this
     split at this
     · assumption
     · cases this
   · exfalso
     rcases Nat.lt_or_ge i ops.size with h' | h'
     · simp [h'] at hl
     · simp [h'] at hl
end
end Go.Vc
namespace Go.Vc
open Go
/-! ### Code -/
/-- a slot that a loop or a cut carries, and what it holds -/
abbrev Slot := Nat × Ly
structure Hints where
 loop : Nat → Option (List Slot)
 cut : Nat → Option (List Slot)
/-- the number of the first region in a text -/
def key : Code → Option Nat
 | .region id _ _ => some id
 | .seq a b => match key a with | some i => some i | none => key b
 | .block _ c => key c
 | .loop c => key c
 | .cond _ a b => match key a with | some i => some i | none => key b
 | _ => none
def dstsC : Code → List Nat
 | .region _ ops _ => dsts ops
 | .seq a b => dstsC a ++ dstsC b
 | .block _ c => dstsC c
 | .loop c => dstsC c
 | .cond _ a b => dstsC a ++ dstsC b
 | _ => []
def Env.forget (ds : List Nat) (e : Env) : Env := fun t => match memB t ds with | true => .no | false => e t
def Env.puts : Env → List Slot → List SV → Env
 | e, (t, _) :: r, x :: xs => Env.puts (e.put t x) r xs
 | e, _, _ => e
def lysS : List Slot → List Ly
 | [] => []
 | (_, l) :: r => l :: lysS r
def shsS (l : List Slot) : List Sh := flats (lysS l)
def getS (e : Env) : List Slot → List SV
 | [] => []
 | (t, _) :: r => e t :: getS e r
/-- a typed function at the slots of an environment -/
def atS {α : Type} (l : List Slot) (f : Fn (shsS l) α) (e : Env) : Option α :=
 match unpacks (lysS l) (getS e l) with
 | some xs => app (shsS l) f xs
 | none => none
def atX {α : Type} (l : List Slot) (f : Fn (shsS l) α) (xs : List SV) : Option α := app (shsS l) f xs
def holdsP : Option (World → Prop) → World → Prop
 | some F, w => F w
 | none, _ => False
def lessM : Option (World → Nat) → World → Option (World → Nat) → World → Prop
 | some m, w, some m', w' => m w < m' w'
 | _, _, _, _ => False
def headEnv (e : Env) (ds : List Nat) (l : List Slot) (xs : List SV) : Env := (e.forget ds).puts l (packs (lysS l) xs)
def slotsIn (ds : List Nat) : List Slot → Bool
 | [] => true
 | (t, _) :: r => match memB t ds with | true => slotsIn ds r | false => false
/-- an order in which what only reads comes as early as may be -/
def greedy (P : Program) (ops : Array Oper) : Nat → Array Bool → List Nat
 | 0, _ => []
 | f + 1, L =>
   let rs := Region.ready .any ops L
   match rs.find? (fun i => match ops[i]? with | some o => isP P o.op || isL P o.op | none => false) with
   | some i => i :: greedy P ops f (L.setIfInBounds i true)
   | none =>
     match rs with
     | i :: _ => i :: greedy P ops f (L.setIfInBounds i true)
     | [] => []
def ordOf (P : Program) (ops : Array Oper) : List Nat := greedy P ops ops.size (Array.replicate ops.size false)
def drawChk (P : Program) (ops : Array Oper) : Bool := Region.noSelect ops && (Nat.ble (ordOf P ops).length ops.size && drawOk P ops (ordOf P ops) (Array.replicate ops.size false))
def vcCode (C : Cfg) (n : Nat) (H : Hints) : Code → (Exit → Env → World → Prop) → Env → World → Prop
 | .skip, Q, e, w => Q .normal e w
 | .label _, Q, e, w => Q .normal e w
 | .region _ ops draw, Q, e, w =>
   match draw with
   | false => vcList C n ops (fun e w => Q .normal e w) ops.toList e w
   | true => match drawChk C.P ops with
     | true => vcDraw C n ops (fun e w => Q .normal e w) (ordOf C.P ops) e w.drew []
     | false => match xChk n C.P ops with
       | true => match lateNo ops e with
         | true => vcX C n ops (fun e w => Q .normal e w) (ordX C.P ops) e w.drew [] [] []
         | false => False
       | false => False
 | .seq a b, Q, e, w =>
   match key b with
   | some i =>
     match H.cut i with
     | none => vcCode C n H a (fun x e w => match x with | .normal => vcCode C n H b Q e w | x => Q x e w) e w
     | some l => match slotsIn (dstsC a) l with
       | false => False
       | true => ∃ J : Fn (shsS l) (World → Prop),
         vcCode C n H a (fun x e w => match x with | .normal => holdsP (atS l J e) w | x => Q x e w) e w ∧
         allF (shsS l) fun xs => ∀ w, holdsP (atX l J xs) w → vcCode C n H b Q (headEnv e (dstsC a) l xs) w
   | none => vcCode C n H a (fun x e w => match x with | .normal => vcCode C n H b Q e w | x => Q x e w) e w
 | .cond c a b, Q, e, w =>
   match ev e c with
   | .lit true => vcCode C n H a Q e w
   | .lit false => vcCode C n H b Q e w
   | .val (.bool g) => (g = true → vcCode C n H a Q e w) ∧ (g = false → vcCode C n H b Q e w)
   | _ => False
 | .block id c, Q, e, w => vcCode C n H c (fun x e w => match x with
     | .exit i => (match Nat.beq i id with | true => Q .normal e w | false => Q (.exit i) e w)
     | x => Q x e w) e w
 | .loop c, Q, e, w =>
   match key c with
   | some i =>
     match H.loop i with
     | some l => match slotsIn (dstsC c) l with
       | false => False
       | true => ∃ (I : Fn (shsS l) (World → Prop)) (μ : Fn (shsS l) (World → Nat)), holdsP (atS l I e) w ∧
         allF (shsS l) fun xs => ∀ w, holdsP (atX l I xs) w →
           vcCode C n H c (fun x e' w' => match x with
             | .normal => holdsP (atS l I e') w' ∧ lessM (atS l μ e') w' (atX l μ xs) w
             | x => Q x e' w') (headEnv e (dstsC c) l xs) w
     | none => False
   | none => False
 | .exit id, Q, e, w => Q (.exit id) e w
 | .ret, Q, e, w => Q .ret e w
 | _, _, _, _ => False
/-- the results, out of the slots or out of memory -/
def vcRes (P : Program) : List ResultVar → Env → World → (List SV → Prop) → Prop
 | [], _, _, k => k []
 | .tmp t :: r, e, w, k => match e t with
   | .no => False
   | s => vcRes P r e w fun l => k (s :: l)
 | .cell t ty :: r, e, w, k => vcLoad P ty (e t) w fun s _ => vcRes P r e w fun l => k (s :: l)
def atL {α : Type} (lys : List Ly) (f : Fn (flats lys) α) (l : List SV) : Option α :=
 match unpacks lys l with
 | some xs => app (flats lys) f xs
 | none => none
def argEnv : List SV → Env
 | [], _ => .no
 | x :: _, 0 => x
 | _ :: r, t + 1 => argEnv r t
def vcFun (C : Cfg) (H : Hints) (fn : Func) (lys : List Ly) (args : List SV) (w : World) (R : Fn (flats lys) (World → Prop)) : Prop :=
 match fn.body, Nat.ble args.length fn.ntmps with
 | some c, true => vcCode C fn.ntmps H c (fun x e w => match x with
     | .normal => vcRes C.P fn.results.toList e w fun l => holdsP (atL lys R l) w
     | .ret => vcRes C.P fn.results.toList e w fun l => holdsP (atL lys R l) w
     | _ => False) (argEnv args) w
 | _, _ => False
end Go.Vc
namespace Go.Vc
open Go
def Cq (n : Nat) (ds : List Nat) (e0 : Env) (Q : Exit → Env → World → Prop) (x : Exit) (a : Act) (w : World) : Prop := ∃ e, Fits n e a ∧ Agree ds e0 e ∧ Q x e w
/-- slots that come of typed arguments -/
def Typed : List Sh → List SV → Prop
 | [], [] => True
 | s :: r, x :: xs => (∃ y : s.T, x = s.sv y) ∧ Typed r xs
 | _, _ => False
theorem allF_spec : ∀ {l : List Sh} {k : List SV → Prop} {xs : List SV}, allF l k → Typed l xs → k xs
 | [], _, [], h, _ => h
 | s :: r, k, x :: xs, h, ⟨⟨y, hy⟩, ht⟩ => by subst hy; exact allF_spec (l := r) (k := fun xs => k (s.sv y :: xs)) (h y) ht
 | [], _, _ :: _, _, ht => ht.elim
 | _ :: _, _, [], _, ht => ht.elim
theorem Sh.un_sv (s : Sh) (y : s.T) : s.un (s.sv y) = some y := by
 cases s <;> simp [Sh.un, Sh.sv, unInt, unBool, unStr, unPtr, unSlice, unMap, unAny]
/-- what a typed function gives at slots, it gives at typed slots of the same values -/
theorem app_typed {α : Type} : ∀ {l : List Sh} {f : Fn l α} {ys : List SV} {g : α}, app l f ys = some g →
   ∃ xs, Typed l xs ∧ app l f xs = some g ∧ SV.vs xs = SV.vs ys ∧ (∀ y ∈ ys, y ≠ .no) ∧ ∀ (β : Type) (f' : Fn l β), app l f' xs = app l f' ys
 | [], f, [], g, h => ⟨[], trivial, h, rfl, fun _ hy => (List.not_mem_nil hy).elim, fun _ _ => rfl⟩
 | s :: r, f, y :: ys, g, h => by
   unfold app at h
   split at h
   · rename_i z hz
     obtain ⟨xs, h1, h2, h3, h6, h7⟩ := app_typed h
     refine ⟨s.sv z :: xs, ⟨⟨z, rfl⟩, h1⟩, ?_, ?_, fun u hu => ?_, fun β f' => ?_⟩
     · unfold app; rw [Sh.un_sv]; exact h2
     · simp only [SV.vs, h3, Sh.sv_v, (den_v (Sh.un_v hz)).2]
     · rcases List.mem_cons.1 hu with rfl | hu
       · exact (den_v (Sh.un_v hz)).1
       · exact h6 u hu
     · unfold app; rw [Sh.un_sv, hz]; exact h7 β (f' z)
   · cases h
 | [], f, _ :: _, g, h => by simp [app] at h
 | _ :: _, f, [], g, h => by simp [app] at h
theorem vs_length : ∀ l : List SV, (SV.vs l).length = l.length
 | [] => rfl
 | _ :: r => by simp [SV.vs, vs_length r]
theorem vs_append : ∀ l r : List SV, SV.vs (l ++ r) = SV.vs l ++ SV.vs r
 | [], _ => rfl
 | x :: l, r => by simp [SV.vs, vs_append l r]
theorem vs_take : ∀ (l : List SV) (n : Nat), SV.vs (l.take n) = (SV.vs l).take n
 | [], n => by simp [SV.vs]
 | x :: l, 0 => by simp [SV.vs]
 | x :: l, n + 1 => by simp [SV.vs, vs_take l n]
theorem vs_drop : ∀ (l : List SV) (n : Nat), SV.vs (l.drop n) = (SV.vs l).drop n
 | [], n => by simp [SV.vs]
 | x :: l, 0 => by simp
 | x :: l, n + 1 => by simp [SV.vs, vs_drop l n]
theorem cellSV_length : ∀ l : List Value, (cellSV l).length = l.length
 | [] => rfl
 | _ :: r => by simp [cellSV, cellSV_length r]
theorem packs_one {ly : Ly} {r : List Ly} {x : SV} {a xs xs' : List SV} (h : unpack1 ly x = some a) (hv : SV.vs xs = SV.vs a) : SV.vs (packs (ly :: r) (xs ++ xs')) = x.v :: SV.vs (packs r xs') := by
 have hl : xs.length = a.length := by rw [← vs_length, hv, vs_length]
 unfold unpack1 at h
 split at h
 · injection h with h; subst h
   match xs, hl with
   | [y], _ => simp only [SV.vs, List.cons.injEq, and_true] at hv; simp [packs, SV.vs, hv]
 · rename_i m cs
   split at h
   · rename_i hb
     injection h with h; subst h
     have hm : xs.length = m.length := by rw [hl, cellSV_length]; exact Nat.eq_of_beq_eq_true hb
     simp only [packs, SV.vs]
     rw [← hm, List.take_left, List.drop_left, hv, cellSV_vs]
   · cases h
 · cases h
/-- what was taken apart and is laid together again is what it was -/
theorem packs_unpacks : ∀ {lys : List Ly} {l ys xs : List SV}, unpacks lys l = some ys → SV.vs xs = SV.vs ys → SV.vs (packs lys xs) = SV.vs l
 | [], [], ys, xs, h, _ => rfl
 | ly :: r, x :: l, ys, xs, h, hv => by
   unfold unpacks at h
   split at h
   · rename_i a b ha hb
     injection h with h
     subst h
     have hlen : xs.length = a.length + b.length := by rw [← vs_length xs, hv, vs_length]; simp
     have hsplit : xs = xs.take a.length ++ xs.drop a.length := (List.take_append_drop ..).symm
     have h1 : SV.vs (xs.take a.length) = SV.vs a := by rw [vs_take, hv, vs_append, ← vs_length a, List.take_left]
     have h2 : SV.vs (xs.drop a.length) = SV.vs b := by rw [vs_drop, hv, vs_append, ← vs_length a, List.drop_left]
     rw [hsplit, packs_one ha h1, packs_unpacks hb h2]
     rfl
   · cases h
 | [], _ :: _, _, _, h, _ => by simp [unpacks] at h
 | _ :: _, [], _, _, h, _ => by simp [unpacks] at h
theorem unpacks_ne : ∀ {lys : List Ly} {l ys : List SV}, unpacks lys l = some ys → (∀ y ∈ ys, y ≠ .no) → ∀ x ∈ l, x ≠ .no
 | [], [], _, _, _, x, hx => (List.not_mem_nil hx).elim
 | ly :: r, x :: l, ys, h, hn, y, hy => by
   unfold unpacks at h
   split at h
   · rename_i a b ha hb
     injection h with h
     subst h
     rcases List.mem_cons.1 hy with rfl | hy
     · unfold unpack1 at ha
       split at ha
       · injection ha with ha; subst ha; exact hn _ (List.mem_append_left _ (List.mem_singleton.2 rfl))
       · simp
       · cases ha
     · exact unpacks_ne hb (fun z hz => hn z (List.mem_append_right _ hz)) y hy
   · cases h
 | [], _ :: _, _, h, _, _, _ => by simp [unpacks] at h
 | _ :: _, [], _, h, _, _, _ => by simp [unpacks] at h
/-! environments at the head of a loop -/
theorem Fits.puts {n : Nat} {a : Act} : ∀ {l : List Slot} {ys : List SV} {e e' : Env}, Fits n e a → SV.vs ys = SV.vs (getS e' l) → (∀ x ∈ getS e' l, x ≠ .no) → Fits n e' a → Fits n (e.puts l ys) a
 | [], ys, e, e', h, _, _, _ => by unfold Env.puts; exact h
 | (t, ly) :: r, [], e, e', h, hv, _, _ => by simp [getS, SV.vs] at hv
 | (t, ly) :: r, y :: ys, e, e', h, hv, hn, h' => by
   simp only [getS, SV.vs, List.cons.injEq] at hv
   unfold Env.puts
   refine Fits.puts (e := e.put t y) (e' := e') ?_ hv.2 (fun x hx => hn x (List.mem_cons_of_mem _ hx)) h'
   have ht : e' t ≠ .no := hn _ (List.mem_cons_self ..)
   refine ⟨h.defers, h.size, fun t' u hu => ?_⟩
   unfold Env.put at hu
   cases hb : Nat.beq t' t with
   | true =>
     have : t' = t := Nat.eq_of_beq_eq_true hb
     subst this
     simp only [hb] at hu
     have hu' := (den_v hu).2
     rw [hv.1] at hu'
     exact h'.tmp _ u (by rw [SV.den_ne ht, hu'])
   | false => simp only [hb] at hu; exact h.tmp t' u hu
theorem Fits.forget {n : Nat} {a : Act} {e0 e : Env} {ds : List Nat} (h : Fits n e a) (hag : Agree ds e0 e) : Fits n (e0.forget ds) a := by
 refine ⟨h.defers, h.size, fun t u hu => ?_⟩
 unfold Env.forget at hu
 split at hu
 · cases hu
 · rename_i hm
   have hnm : t ∉ ds := fun hmem => by rw [(memB_iff t ds).2 hmem] at hm; cases hm
   rw [← hag t hnm] at hu
   exact h.tmp t u hu
/-- the state at a loop's head, or behind a cut -/
theorem head_fits {n : Nat} {a : Act} {e0 e : Env} {ds : List Nat} (hf : Fits n e a) (hag : Agree ds e0 e) {l : List Slot} {α : Type} {f : Fn (shsS l) α} {g : α} (h : atS l f e = some g) :
   ∃ xs, Typed (shsS l) xs ∧ atX l f xs = some g ∧ Fits n (headEnv e0 ds l xs) a ∧ ∀ (β : Type) (f' : Fn (shsS l) β), atX l f' xs = atS l f' e := by
 unfold atS at h
 split at h
 · rename_i ys hys
   obtain ⟨xs, h1, h2, h3, h6, h8⟩ := app_typed h
   have h7 := packs_unpacks hys h3
   exact ⟨xs, h1, h2, Fits.puts (hf.forget hag) h7 (unpacks_ne hys h6) hf, fun β f' => by unfold atX atS; rw [hys]; exact h8 β f'⟩
 · cases h
theorem puts_agree {ds : List Nat} : ∀ {l : List Slot} (e : Env) (ys : List SV), slotsIn ds l = true → Agree ds e (e.puts l ys)
 | [], e, ys, _ => by unfold Env.puts; exact .refl _ _
 | (t, ly) :: r, e, [], _ => by unfold Env.puts; exact .refl _ _
 | (t, ly) :: r, e, y :: ys, h => by
   unfold slotsIn at h
   split at h
   · rename_i hm
     unfold Env.puts
     exact (Agree.put ((memB_iff t ds).1 hm) y).trans (puts_agree _ ys h)
   · cases h
theorem head_agree {ds : List Nat} {l : List Slot} {e : Env} (h : slotsIn ds l = true) (xs : List SV) : Agree ds e (headEnv e ds l xs) := by
 refine Agree.trans (e2 := e.forget ds) (fun t ht => ?_) (puts_agree _ _ h)
 unfold Env.forget
 cases hm : memB t ds with
 | true => exact absurd ((memB_iff t ds).1 hm) ht
 | false => rfl
theorem wp_loop' {P : Program} {Q : Exit → Act → World → Prop} {c : Code} {a : Act} {w : World} (I : Act → World → Nat → Prop) {m0 : Nat} (h₀ : I a w m0)
   (round : ∀ a w m, I a w m → c.wp P (Exit.then (fun a' w' => ∃ m', m' < m ∧ I a' w' m') Q) a w) : (Code.loop c).wp P Q a w := by
 intro b k cs
 have key : ∀ n a w, I a w n →
     ∃ e a' w', Q e a' w' ∧ Arrives P (lone (b.at a (.code c :: .inLoop c :: k)) cs w) b k cs e a' w' := by
   intro n
   induction n using Nat.strongRecOn with
   | _ n ih =>
     intro a w hI
     obtain ⟨e, a₁, w₁, hq, harr⟩ := round a w n hI b (.inLoop c :: k) cs
     cases e with
     | normal =>
       obtain ⟨m', hlt, hI₁⟩ := hq
       obtain ⟨e₂, a₂, w₂, hq₂, harr₂⟩ := ih m' hlt a₁ w₁ hI₁
       exact ⟨e₂, a₂, w₂, hq₂, .of_steps (Steps.trans harr (.one step_inLoop)) harr₂⟩
     | exit id => exact ⟨_, a₁, w₁, hq, .pass (x := .inLoop c) rfl (fun _ _ => .inl (by simp)) harr⟩
     | goto l => exact ⟨_, a₁, w₁, hq, .pass (x := .inLoop c) rfl (fun _ _ => .inl (by simp)) harr⟩
     | ret => exact ⟨_, a₁, w₁, hq, .pass (x := .inLoop c) rfl (fun _ _ => .inl (by simp)) harr⟩
     | panic ch => exact ⟨_, a₁, w₁, hq, .pass (x := .inLoop c) rfl (fun _ _ => .inl (by simp)) harr⟩
     | outgrown => exact ⟨_, a₁, w₁, hq, .pass (x := .inLoop c) rfl (fun _ _ => .inl (by simp)) harr⟩
 obtain ⟨e, a', w', hq, harr⟩ := key _ a w h₀
 exact ⟨e, a', w', hq, .of_steps (.one step_loop) harr⟩
section
variable {C : Cfg} {n : Nat} {H : Hints}
theorem Cq_mono {ds ds' : List Nat} {e0 : Env} {Q Q' : Exit → Env → World → Prop} (hs : ∀ t, t ∈ ds → t ∈ ds') (hQ : ∀ x e w, Q x e w → Q' x e w) {x : Exit} {a : Act} {w : World} (h : Cq n ds e0 Q x a w) : Cq n ds' e0 Q' x a w :=
 let ⟨e, h1, h2, h3⟩ := h
 ⟨e, h1, h2.more hs, hQ _ _ _ h3⟩
theorem vcCode_sound (hC : CfgOk C) : ∀ (c : Code) (Q : Exit → Env → World → Prop) (e : Env) (a : Act) (w : World), Fits n e a → vcCode C n H c Q e w → c.wp C.P (Cq n (dstsC c) e Q) a w
 | .skip, Q, e, a, w, hf, h => wp_skip ⟨e, hf, .refl _ _, by unfold vcCode at h; exact h⟩
 | .label _, Q, e, a, w, hf, h => wp_label ⟨e, hf, .refl _ _, by unfold vcCode at h; exact h⟩
 | .region id ops draw, Q, e, a, w, hf, h => by
   unfold vcCode at h
   have hq : ∀ x a w, Rq n (dsts ops) e (fun e w => Q .normal e w) x a w → Cq n (dstsC (.region id ops draw)) e Q x a w := by
     intro x a w hx
     cases x <;> simp only [Rq] at hx
     exact hx
   split at h
   · exact Code.wp_mono hq (region_sound hC hf h)
   · split at h
     · rename_i hchk
       simp only [drawChk, Bool.and_eq_true] at hchk
       exact Code.wp_mono hq (region_draw_sound hC hchk.1 hchk.2.1 hchk.2.2 hf h)
     · split at h
       · rename_i hx
         split at h
         · rename_i hno
           exact Code.wp_mono hq (region_X_sound hC hx hno hf h)
         · exact h.elim
       · exact h.elim
 | .seq x y, Q, e, a, w, hf, h => by
   have plain : vcCode C n H x (fun z e w => match z with | .normal => vcCode C n H y Q e w | z => Q z e w) e w → (Code.seq x y).wp C.P (Cq n (dstsC (.seq x y)) e Q) a w := by
     intro h
     refine wp_seq (Code.wp_mono ?_ (vcCode_sound hC x _ e a w hf h))
     intro z a' w' ⟨e', hf', hag', hz⟩
     cases z with
     | normal =>
       refine Code.wp_mono ?_ (vcCode_sound hC y Q e' a' w' hf' hz)
       intro z a2 w2 ⟨e2, hf2, hag2, hz2⟩
       exact ⟨e2, hf2, (hag'.more (fun t ht => List.mem_append_left _ ht)).trans (hag2.more (fun t ht => List.mem_append_right _ ht)), hz2⟩
     | exit i => exact ⟨e', hf', hag'.more (fun t ht => List.mem_append_left _ ht), hz⟩
     | goto i => exact ⟨e', hf', hag'.more (fun t ht => List.mem_append_left _ ht), hz⟩
     | ret => exact ⟨e', hf', hag'.more (fun t ht => List.mem_append_left _ ht), hz⟩
     | panic ch => exact ⟨e', hf', hag'.more (fun t ht => List.mem_append_left _ ht), hz⟩
     | outgrown => exact ⟨e', hf', hag'.more (fun t ht => List.mem_append_left _ ht), hz⟩
   unfold vcCode at h
   split at h
   · split at h
     · exact plain h
     · rename_i l _
       split at h
       · exact h.elim
       rename_i hin
       obtain ⟨J, h1, h2⟩ := h
       refine wp_seq (Code.wp_mono ?_ (vcCode_sound hC x _ e a w hf h1))
       intro z a' w' ⟨e', hf', hag', hz⟩
       have other : Q z e' w' → Cq n (dstsC (.seq x y)) e Q z a' w' := fun hq => ⟨e', hf', hag'.more (fun t ht => List.mem_append_left _ ht), hq⟩
       cases z with
       | normal =>
         simp only at hz
         cases hat : atS l J e' with
         | none => rw [hat] at hz; exact hz.elim
         | some F =>
           rw [hat] at hz
           obtain ⟨xs, ht, hx, hfx, _⟩ := head_fits hf' hag' hat
           have hk := allF_spec h2 ht w' (by rw [hx]; exact hz)
           refine Code.wp_mono ?_ (vcCode_sound hC y Q _ a' w' hfx hk)
           intro z a2 w2 ⟨e2, hf2, hag2, hz2⟩
           exact ⟨e2, hf2, ((head_agree hin xs).more (fun t ht => List.mem_append_left _ ht)).trans (hag2.more (fun t ht => List.mem_append_right _ ht)), hz2⟩
       | exit i => exact other hz
       | goto i => exact other hz
       | ret => exact other hz
       | panic ch => exact other hz
       | outgrown => exact other hz
   · exact plain h
 | .cond c x y, Q, e, a, w, hf, h => by
   unfold vcCode at h
   have hx : ∀ z a w, Cq n (dstsC x) e Q z a w → Cq n (dstsC (.cond c x y)) e Q z a w := fun z a w => Cq_mono (fun t ht => List.mem_append_left _ ht) (fun _ _ _ h => h)
   have hy : ∀ z a w, Cq n (dstsC y) e Q z a w → Cq n (dstsC (.cond c x y)) e Q z a w := fun z a w => Cq_mono (fun t ht => List.mem_append_right _ ht) (fun _ _ _ h => h)
   split at h
   · rename_i hc
     exact wp_cond_true (hf.ev_v hc (by simp)) (Code.wp_mono hx (vcCode_sound hC x Q e a w hf h))
   · rename_i hc
     exact wp_cond_false (hf.ev_v hc (by simp)) (Code.wp_mono hy (vcCode_sound hC y Q e a w hf h))
   · rename_i g hc
     exact wp_cond_split (hf.ev_v hc (by simp)) (fun hg => Code.wp_mono hx (vcCode_sound hC x Q e a w hf (h.1 hg))) (fun hg => Code.wp_mono hy (vcCode_sound hC y Q e a w hf (h.2 hg)))
   · exact h.elim
 | .block id c, Q, e, a, w, hf, h => by
   unfold vcCode at h
   refine wp_block (Code.wp_mono ?_ (vcCode_sound hC c _ e a w hf h))
   intro z a' w' ⟨e', hf', hag', hz⟩
   cases z with
   | exit i =>
     simp only at hz
     show (if i = id then _ else _)
     split at hz
     · rename_i hb
       rw [if_pos (Nat.eq_of_beq_eq_true hb)]
       exact ⟨e', hf', hag', hz⟩
     · rename_i hb
       rw [if_neg (fun he => by rw [he] at hb; simp at hb)]
       exact ⟨e', hf', hag', hz⟩
   | normal => exact ⟨e', hf', hag', hz⟩
   | goto i => exact ⟨e', hf', hag', hz⟩
   | ret => exact ⟨e', hf', hag', hz⟩
   | panic ch => exact ⟨e', hf', hag', hz⟩
   | outgrown => exact ⟨e', hf', hag', hz⟩
 | .exit id, Q, e, a, w, hf, h => wp_exit ⟨e, hf, .refl _ _, by unfold vcCode at h; exact h⟩
 | .ret, Q, e, a, w, hf, h => wp_ret ⟨e, hf, .refl _ _, by unfold vcCode at h; exact h⟩
 | .loop c, Q, e, a, w, hf, h => by
   unfold vcCode at h
   split at h
   · split at h
     · rename_i l _
       split at h
       · exact h.elim
       rename_i hin
       obtain ⟨I, μ, h1, h2⟩ := h
       cases hat : atS l I e with
       | none => rw [hat] at h1; exact h1.elim
       | some F =>
         rw [hat] at h1
         obtain ⟨xs0, ht0, hx0, hfx0, _⟩ := head_fits hf (.refl (dstsC c) e) hat
         have start : ∃ m0, (∃ xs, Typed (shsS l) xs ∧ holdsP (atX l I xs) w ∧ Fits n (headEnv e (dstsC c) l xs) a ∧ ∀ m, atX l μ xs = some m → m w = m0) := by
           cases hm : atX l μ xs0 with
           | none => exact ⟨0, xs0, ht0, by rw [hx0]; exact h1, hfx0, fun m h => by rw [hm] at h; cases h⟩
           | some m => exact ⟨m w, xs0, ht0, by rw [hx0]; exact h1, hfx0, fun m' h => by rw [hm] at h; injection h with h; rw [h]⟩
         obtain ⟨m0, start⟩ := start
         refine wp_loop' (fun a w m0 => ∃ xs, Typed (shsS l) xs ∧ holdsP (atX l I xs) w ∧ Fits n (headEnv e (dstsC c) l xs) a ∧ ∀ m, atX l μ xs = some m → m w = m0) start ?_
         intro a1 w1 m1 ⟨xs, ht, hI, hfx, hm⟩
         have hk := allF_spec h2 ht w1 hI
         refine Code.wp_mono ?_ (vcCode_sound hC c _ _ a1 w1 hfx hk)
         intro z a2 w2 ⟨e2, hf2, hag2, hz⟩
         have hag3 : Agree (dstsC c) e e2 := (head_agree hin xs).trans hag2
         cases z with
         | normal =>
           obtain ⟨hz1, hz2⟩ := hz
           show ∃ m', _
           cases hat2 : atS l I e2 with
           | none => rw [hat2] at hz1; exact hz1.elim
           | some F2 =>
             rw [hat2] at hz1
             cases hm2 : atS l μ e2 with
             | none => rw [hm2] at hz2; exact hz2.elim
             | some g2 =>
               rw [hm2] at hz2
               cases hm1 : atX l μ xs with
               | none => rw [hm1] at hz2; exact hz2.elim
               | some g1 =>
                 rw [hm1] at hz2
                 obtain ⟨ys, hty, hy, hfy, hpy⟩ := head_fits hf2 hag3 hat2
                 refine ⟨g2 w2, by have := hm g1 hm1; simp only [lessM] at hz2; omega, ys, hty, by rw [hy]; exact hz1, hfy, fun m hmy => ?_⟩
                 rw [hpy _ μ, hm2] at hmy
                 injection hmy with hmy
                 rw [hmy]
         | exit i => exact ⟨e2, hf2, hag3, hz⟩
         | goto i => exact ⟨e2, hf2, hag3, hz⟩
         | ret => exact ⟨e2, hf2, hag3, hz⟩
         | panic ch => exact ⟨e2, hf2, hag3, hz⟩
         | outgrown => exact ⟨e2, hf2, hag3, hz⟩
     · exact h.elim
   · exact h.elim
 | .rangeFunc .., Q, e, a, w, hf, h => by unfold vcCode at h; exact h.elim
 | .scope .., Q, e, a, w, hf, h => by unfold vcCode at h; exact h.elim
 | .goto .., Q, e, a, w, hf, h => by unfold vcCode at h; exact h.elim
 | .refuse .., Q, e, a, w, hf, h => by unfold vcCode at h; exact h.elim
end
end Go.Vc
namespace Go.Vc
open Go
theorem exF_of_app {α : Type} : ∀ {l : List Sh} {f : Fn l α} {xs : List SV} {g : α} {k : List SV → α → Prop}, Typed l xs → app l f xs = some g → k xs g → exF l f k
 | [], f, [], g, k, _, h, hk => by
   simp only [app, Option.some.injEq] at h
   subst h
   exact hk
 | s :: r, f, x :: xs, g, k, ht, h, hk => by
   obtain ⟨⟨y, hy⟩, ht⟩ := ht
   subst hy
   unfold app at h
   rw [Sh.un_sv] at h
   exact ⟨y, exF_of_app (l := r) (f := f y) (k := fun xs g => k (s.sv y :: xs) g) ht h hk⟩
 | [], f, _ :: _, g, k, ht, _, _ => ht.elim
 | _ :: _, f, [], g, k, ht, _, _ => ht.elim
theorem vcRes_sound {P : Program} {n : Nat} {a : Act} {g : ResultVar → Sem Value} (hg1 : ∀ t, g (.tmp t) = pure (a.tmps.getD t undef)) (hg2 : ∀ c t, g (.cell c t) = (do loadVar t (← asAddr (a.tmps.getD c undef)))) :
   ∀ (rs : List ResultVar) (e : Env) (w : World) (k : List SV → Prop), Fits n e a → vcRes P rs e w k →
   ∃ l, k l ∧ (∀ x ∈ l, x ≠ .no) ∧ (rs.mapM g).run P w = .ok (SV.vs l) w
 | [], e, w, k, hf, h => ⟨[], h, fun _ hx => (List.not_mem_nil hx).elim, by simp [SV.vs]⟩
 | .tmp t :: r, e, w, k, hf, h => by
   unfold vcRes at h
   split at h
   · exact h.elim
   · rename_i s hn
     obtain ⟨l, h1, h2, h3⟩ := vcRes_sound hg1 hg2 r e w _ hf h
     refine ⟨e t :: l, h1, fun x hx => ?_, ?_⟩
     · rcases List.mem_cons.1 hx with rfl | hx
       · exact hn
       · exact h2 x hx
     · have hv := (hf.tmp t _ (SV.den_ne hn)).2
       simp only [List.mapM_cons, Sem.run_bind, hg1, Sem.run_pure, Result.andThen_ok, hv, SV.vs, h3]
 | .cell t ty :: r, e, w, k, hf, h => by
   unfold vcRes at h
   obtain ⟨sv, v, fs, hk, hd, hfs, hr⟩ := vcLoad_sound h
   obtain ⟨l, h1, h2, h3⟩ := vcRes_sound hg1 hg2 r e w _ hf hk
   have hne : e t ≠ .no := fun hn => by rw [hn] at h; unfold vcLoad at h; split at h <;> simp_all
   have hv := (hf.tmp t _ (SV.den_ne hne)).2
   refine ⟨sv :: l, h1, fun x hx => ?_, ?_⟩
   · rcases List.mem_cons.1 hx with rfl | hx
     · exact (den_v hd).1
     · exact h2 x hx
   · have hl : (do loadVar ty (← asAddr (a.tmps.getD t undef)) : Sem Value).run P w = .ok v w := by
       have := hr w hfs
       rw [hv]
       have hadr : ∃ ad, e t = .adr ad := by
         unfold vcLoad at h
         split at h
         · rename_i heq _; exact ⟨_, heq⟩
         · rename_i heq _; exact ⟨_, heq⟩
         · exact h.elim
       obtain ⟨ad, had⟩ := hadr
       rw [had] at this ⊢
       simpa [Instr.loadAt, SV.v, Instr.sureAddr, asAddr] using this
     rw [← hg2] at hl
     simp only [List.mapM_cons, Sem.run_bind, SV.vs, (den_v hd).2, hl, Result.andThen_ok, h3, Sem.run_pure]
theorem results_sound {P : Program} {n : Nat} {fn : Func} {e : Env} {a : Act} {w : World} {lys : List Ly} {R : Fn (flats lys) (World → Prop)} (hf : Fits n e a)
   (h : vcRes P fn.results.toList e w fun l => holdsP (atL lys R l) w) :
   ∃ v, (results fn a.tmps).run P w = .ok v w ∧ exF (flats lys) R fun xs F => Ending.returned v = .returned (resV (SV.vs (packs lys xs))) ∧ F w := by
 obtain ⟨l, h1, h2, h3⟩ := vcRes_sound (a := a) (g := fun
     | .tmp t => pure (a.tmps.getD t undef)
     | .cell c t => do loadVar t (← asAddr (a.tmps.getD c undef))) (fun _ => rfl) (fun _ _ => rfl) _ _ _ _ hf h
 refine ⟨resV (SV.vs l), ?_, ?_⟩
 · unfold results
   rw [Array.mapM_eq_mapM_toList, Sem.run_bind, Sem.run_map]
   erw [h3]
   simp only [Result.andThen_ok, Sem.run_pure]
   congr 1
   match hl : SV.vs l with
   | [] => rfl
   | [x] => rfl
   | x :: y :: r => simp [resV]
 · unfold atL at h1
   split at h1
   · rename_i ys hys
     cases hat : app (flats lys) R ys with
     | none => rw [hat] at h1; exact h1.elim
     | some F =>
       rw [hat] at h1
       obtain ⟨xs, ht, hx, hv, _, _⟩ := app_typed hat
       exact exF_of_app ht hx ⟨by rw [packs_unpacks hys hv], h1⟩
   · exact h1.elim
theorem argEnv_fits : ∀ (args : List SV) (n : Nat), args.length ≤ n → (∀ x ∈ args, x ≠ .no) → Fits n (argEnv args) { tmps := ⟨SV.vs args⟩ ++ Array.replicate (n - (SV.vs args).length) undef, defers := [] } := by
 intro args n hn hne
 refine ⟨rfl, by simp [vs_length]; omega, fun t v hv => ?_⟩
 have key : ∀ (l : List SV) (t : Nat), (argEnv l t).den = some v → t < l.length ∧ (SV.vs l)[t]? = some v := by
   intro l
   induction l with
   | nil => intro t h; simp [argEnv, SV.den] at h
   | cons x r ih =>
     intro t h
     cases t with
     | zero => simp only [argEnv] at h; simp [SV.vs, (den_v h).2]
     | succ t => simp only [argEnv] at h; have := ih t h; exact ⟨by simp; exact this.1, by simpa [SV.vs] using this.2⟩
 obtain ⟨h1, h2⟩ := key args t hv
 refine ⟨by omega, ?_⟩
 rw [Array.getD_eq_getD_getElem?, Array.getElem?_append_left (by simp [vs_length]; exact h1)]
 simp [h2]
def argsOk : List SV → Bool
 | [] => true
 | .no :: _ => false
 | _ :: r => argsOk r
theorem argsOk_spec : ∀ l, argsOk l = true → ∀ x ∈ l, x ≠ .no
 | [], _, _, hx => (List.not_mem_nil hx).elim
 | y :: r, h, x, hx => by
   have : y ≠ .no ∧ argsOk r = true := by cases y <;> simp_all [argsOk]
   rcases List.mem_cons.1 hx with rfl | hx
   · exact this.1
   · exact argsOk_spec r this.2 x hx
theorem vcFun_sound {C : Cfg} (hC : CfgOk C) {H : Hints} {f : FuncId} {fn : Func} (hfn : C.P.funcs[f]? = some fn) {lys : List Ly} {args : List SV} (ha : argsOk args = true) {w : World} {R : Fn (flats lys) (World → Prop)}
   (h : vcFun C H fn lys args w R) : RetT C.P lys f ⟨SV.vs args⟩ w R := by
 unfold vcFun at h
 split at h
 · rename_i c hb hlen
   refine calls_of_wp hfn hb ?_
   refine Code.wp_mono ?_ (vcCode_sound hC c _ _ _ w (argEnv_fits args fn.ntmps (Nat.le_of_ble_eq_true hlen) (argsOk_spec args ha)) h)
   intro x a' w' ⟨e', hf', _, hx⟩
   cases x with
   | normal =>
     obtain ⟨v, h1, h2⟩ := results_sound hf' hx
     exact ⟨hf'.defers, v, h1, h2⟩
   | ret =>
     obtain ⟨v, h1, h2⟩ := results_sound hf' hx
     exact ⟨hf'.defers, v, h1, h2⟩
   | exit i => exact hx.elim
   | goto i => exact hx.elim
   | panic ch => exact hx.elim
   | outgrown => exact hx.elim
 · exact h.elim
end Go.Vc
namespace Go.Vc
open Go
/-- the beginning of a block -/
abbrev blk (g : Nat) : Addr := ⟨g, 0, none⟩
def sNil : ByteArray := ⟨#[]⟩
abbrev w64 (x : Int) : Int := IntKind.i64.wrap x
abbrev wr (k : IntKind) (x : Int) : Int := k.wrap x
def okChk (P : Program) (f : Nat) : Bool :=
 match P.funcs[f]? with
 | some fn => !fn.body.isNone && !(fn.name == "runtime.NumGoroutine")
 | none => false
theorem okChk_spec {P : Program} {f : Nat} (h : okChk P f = true) : Callable P f := by
 unfold okChk at h
 split at h
 · rename_i fn hf
   simp only [Bool.and_eq_true, Bool.not_eq_true'] at h
   exact ⟨fn, hf, h.1, h.2⟩
 · cases h
/-! ### '==' on structs -/
def eqFs (rec_ : TypeId → Option (List Sh)) (P : Program) : List Field → Nat → Option (List Sh)
 | [], _ => some []
 | f :: r, off =>
   match !(f.name == "_") && Nat.beq f.offset off, rec_ f.type, sizeT P f.type with
   | true, some a, some n =>
     match Nat.beq n a.length, eqFs rec_ P r (off + n) with
     | true, some b => some (a ++ b)
     | _, _ => none
   | _, _, _ => none
def eqShs (P : Program) : Nat → TypeId → Option (List Sh)
 | 0, _ => none
 | d + 1, t =>
   match P.underlying t with
   | some (.int k) => some [.int k]
   | some .bool => some [.bool]
   | some .string => some [.str]
   | some (.struct fs) => match P.stoodInHeld t with | true => none | false => eqFs (eqShs P d) P fs.toList 0
   | _ => none
def eqChk (P : Program) (d : Nat) (t : TypeId) (sh : List Sh) : Bool :=
 decide (eqShs P d t = some sh) && (!(P.eqGuardType P.depth t) && aggType (P.underlying t))
/-- the value of a type whose cells these are -/
def mkV (P : Program) (t : TypeId) (xs : List Value) : Value :=
 match aggType (P.underlying t) with
 | true => .agg ⟨xs⟩
 | false => xs.headD undef
theorem eqCells_append : ∀ (a b : List Sh) (xs ys : List Value) (g : Bool), eqCells (a ++ b) xs ys = some g →
   ∃ g1 g2, eqCells a xs ys = some g1 ∧ eqCells b (xs.drop a.length) (ys.drop a.length) = some g2 ∧ g = (g1 && g2) ∧ a.length ≤ xs.length ∧ a.length ≤ ys.length
 | [], b, xs, ys, g, h => ⟨true, g, by simp [eqCells], by simpa using h, by simp, by simp, by simp⟩
 | s :: a, b, xs, ys, g, h => by
   rw [List.cons_append] at h
   unfold eqCells at h
   split at h
   · rename_i h3; cases h3
   all_goals (try cases h; done)
   · rename_i k r k1 u xs' k2 v ys' heq
     injection heq with e1 e2
     subst e1
     subst e2
     split at h
     · rename_i hk
       split at h
       · rename_i g' hg
         injection h with h
         obtain ⟨g1, g2, i1, i2, i3, i4, i5⟩ := eqCells_append a b xs' ys' g' hg
         exact ⟨(u == v) && g1, g2, by simp [eqCells, hk, i1], by simpa using i2, by rw [← h, i3, Bool.and_assoc], by simpa using i4, by simpa using i5⟩
       · cases h
     · cases h
   · rename_i r u xs' v ys' heq
     injection heq with e1 e2
     subst e1
     subst e2
     split at h
     · rename_i g' hg
       injection h with h
       obtain ⟨g1, g2, i1, i2, i3, i4, i5⟩ := eqCells_append a b xs' ys' g' hg
       exact ⟨sEq u v && g1, g2, by simp [eqCells, i1], by simpa using i2, by rw [← h, i3, Bool.and_assoc], by simpa using i4, by simpa using i5⟩
     · cases h
   · rename_i r u xs' v ys' heq
     injection heq with e1 e2
     subst e1
     subst e2
     split at h
     · rename_i g' hg
       injection h with h
       obtain ⟨g1, g2, i1, i2, i3, i4, i5⟩ := eqCells_append a b xs' ys' g' hg
       exact ⟨(u == v) && g1, g2, by simp [eqCells, i1], by simpa using i2, by rw [← h, i3, Bool.and_assoc], by simpa using i4, by simpa using i5⟩
     · cases h
theorem eqCells_take (a : List Sh) : ∀ (xs ys : List Value) (g : Bool), eqCells a xs ys = some g → eqCells a (xs.take a.length) (ys.take a.length) = some g := by
 induction a with
 | nil => intro xs ys g h; simpa [eqCells] using h
 | cons s a ih =>
   intro xs ys g h
   cases s <;> cases xs with
   | nil => simp [eqCells] at h
   | cons x xs =>
     cases ys with
     | nil => cases x <;> simp [eqCells] at h
     | cons y ys =>
       cases x <;> cases y <;> simp only [eqCells, List.take_succ_cons, List.length_cons] at h ⊢ <;> first
         | (cases h; done)
         | (split at h
            · rename_i hk
              split at h
              · rename_i g' hg
                rw [if_pos hk, ih _ _ _ hg]; exact h
              · cases h
            · cases h)
         | (split at h
            · rename_i g' hg
              rw [ih _ _ _ hg]; exact h
            · cases h)
theorem mkV_scalar {P : Program} {t : TypeId} {d : TypeDesc} (hu : P.underlying t = some d) (ha : aggType (some d) = false) (xs : List Value) : mkV P t xs = xs.headD undef := by
 unfold mkV; rw [hu, ha]
theorem mkV_agg {P : Program} {t : TypeId} {d : TypeDesc} (hu : P.underlying t = some d) (ha : aggType (some d) = true) (xs : List Value) : mkV P t xs = .agg ⟨xs⟩ := by
 unfold mkV; rw [hu, ha]
theorem run_part_mkV {P : Program} {t : TypeId} {d : TypeDesc} (hu : P.underlying t = some d) {n : Nat} (hn : sizeT P t = some n) (hd : aggType (some d) = false → n = 1) {xs : Array Value} {off : Nat} (hl : aggType (some d) = false → off < xs.size) (w : World) :
   (part t xs off).run P w = .ok (mkV P t ((xs.toList.drop off).take n)) w := by
 cases ha : aggType (some d) with
 | true =>
   have : xs.extract off (off + n) = ⟨List.take n (List.drop off xs.toList)⟩ := by
     apply Array.toList_inj.1
     rw [Array.toList_extract, List.extract_eq_take_drop]
     congr 1
     omega
   rw [mkV_agg hu ha]
   simp [part, run_isAgg hu, ha, run_sizeT hn, this]
 | false =>
   rw [mkV_scalar hu ha]
   have h1 := hd ha
   subst h1
   have hlt : off < xs.toList.length := by simpa using hl ha
   have hv : xs.toList[off]? = some (xs.toList[off]) := List.getElem?_eq_getElem hlt
   rw [run_part_one hu ha hv]
   rw [List.drop_eq_getElem_cons hlt]
   rfl
theorem eqShs_len {P : Program} {d : Nat} {t : TypeId} {sh : List Sh} (h : eqShs P d t = some sh) : ∃ de, P.underlying t = some de ∧ (aggType (some de) = false → sh.length = 1) := by
 cases d with
 | zero => cases h
 | succ d =>
   unfold eqShs at h
   split at h
   · rename_i hu; injection h with h; subst h; exact ⟨_, hu, fun _ => rfl⟩
   · rename_i hu; injection h with h; subst h; exact ⟨_, hu, fun _ => rfl⟩
   · rename_i hu; injection h with h; subst h; exact ⟨_, hu, fun _ => rfl⟩
   · rename_i hu; exact ⟨_, hu, fun h => by cases h⟩
   · cases h
theorem eqShs_sound {P : Program} : ∀ (d : Nat) (t : TypeId) (sh : List Sh), eqShs P d t = some sh → ∀ (e : Nat), d ≤ e → ∀ (xs ys : List Value) (g : Bool), eqCells sh xs ys = some g →
   ∀ w, (Op.equalIn e t (mkV P t xs) (mkV P t ys)).run P w = .ok g w
 | 0, _, _, h, _, _, _, _, _, _, _ => by cases h
 | d + 1, t, sh, h, 0, he, _, _, _, _, _ => by omega
 | d + 1, t, sh, h, e + 1, he, xs, ys, g, hg, w => by
   unfold eqShs at h
   split at h
   · rename_i k hu
     injection h with h; subst h
     rw [mkV_scalar hu rfl, mkV_scalar hu rfl]
     unfold eqCells at hg
     split at hg <;> (try cases hg; done)
     · rename_i heq; cases heq
     · rename_i k' r k1 a xs' k2 b ys' heq
       injection heq with e1 e2; injection e1 with e1; subst e1; subst e2
       split at hg
       · rename_i hk
         obtain ⟨rfl, rfl⟩ := hk
         simp only [eqCells, Option.some.injEq, Bool.and_true] at hg
         subst hg
         simp [run_equalIn_int w e t _ _ a b hu]
       · cases hg
     · rename_i heq; injection heq with e1 e2; cases e1
     · rename_i heq; injection heq with e1 e2; cases e1
   · rename_i hu
     injection h with h; subst h
     rw [mkV_scalar hu rfl, mkV_scalar hu rfl]
     unfold eqCells at hg
     split at hg <;> (try cases hg; done)
     · rename_i heq; cases heq
     · rename_i heq; injection heq with e1 e2; cases e1
     · rename_i heq; injection heq with e1 e2; cases e1
     · rename_i r a xs' b ys' heq
       injection heq with e1 e2; subst e2
       simp only [eqCells, Option.some.injEq, Bool.and_true] at hg
       subst hg
       simp [run_equalIn_bool' w e t a b hu]
   · rename_i hu
     injection h with h; subst h
     rw [mkV_scalar hu rfl, mkV_scalar hu rfl]
     unfold eqCells at hg
     split at hg <;> (try cases hg; done)
     · rename_i heq; cases heq
     · rename_i heq; injection heq with e1 e2; cases e1
     · rename_i r a xs' b ys' heq
       injection heq with e1 e2; subst e2
       simp only [eqCells, Option.some.injEq, Bool.and_true] at hg
       subst hg
       simp only [List.headD_cons]
       rw [run_equalIn_string w e t a b hu, sEq_toList]
     · rename_i heq; injection heq with e1 e2; cases e1
   · rename_i fs hu
     split at h
     · cases h
     · rename_i hst
       rw [mkV_agg hu rfl, mkV_agg hu rfl]
       have hfs : P.fieldsOf t = fs := by unfold Program.fieldsOf; rw [hu]
       rw [run_equalIn_struct w e t ⟨xs⟩ ⟨ys⟩ (by rw [hfs]; exact hu) hst, hfs]
       have key : ∀ (l : List Field) (off : Nat) (s : List Sh) (g : Bool), eqFs (eqShs P d) P l off = some s → eqCells s (xs.drop off) (ys.drop off) = some g → (Op.eqFields e ⟨xs⟩ ⟨ys⟩ l).run P w = .ok g w := by
         intro l
         induction l with
         | nil =>
           intro off s g h1 h2
           simp only [eqFs, Option.some.injEq] at h1
           subst h1
           simp only [eqCells, Option.some.injEq] at h2
           subst h2
           simp [Op.eqFields]
         | cons f r ih =>
           intro off s g h1 h2
           unfold eqFs at h1
           split at h1
           · rename_i a n hb ha hn
             simp only [Bool.and_eq_true, Bool.not_eq_true', beq_eq_false_iff_ne] at hb
             obtain ⟨hname, hoff⟩ := hb
             have hoff' := Nat.eq_of_beq_eq_true hoff
             split at h1
             · rename_i b hna hb2
               have hna' := Nat.eq_of_beq_eq_true hna
               injection h1 with h1
               subst h1
               obtain ⟨g1, g2, i1, i2, i3, i4, i5⟩ := eqCells_append a b _ _ g h2
               simp only [List.length_drop] at i4 i5
               obtain ⟨de, hde, hone⟩ := eqShs_len ha
               have p1 := run_part_mkV (xs := ⟨xs⟩) (off := off) hde hn (fun hx => by rw [hna']; exact hone hx) (fun hx => by have := hone hx; simp; omega) w
               have p2 := run_part_mkV (xs := ⟨ys⟩) (off := off) hde hn (fun hx => by rw [hna']; exact hone hx) (fun hx => by have := hone hx; simp; omega) w
               have p3 := eqShs_sound d f.type a ha e (by omega) _ _ g1 (eqCells_take a _ _ _ i1) w
               rw [← hna'] at p3
               simp only [Op.eqFields, ne_eq, hname, not_false_eq_true, if_true, hoff', Sem.run_bind, p1, p2, p3, Result.andThen_ok]
               subst i3
               cases g1 with
               | false => simp
               | true =>
                 simp only [Bool.not_true, Bool.false_eq_true, if_false, Bool.true_and]
                 refine ih (off + n) b g2 hb2 ?_
                 rw [List.drop_drop, List.drop_drop, ← hna'] at i2
                 exact i2
             · cases h1
           · cases h1
       exact key fs.toList 0 sh g h (by simpa using hg)
   · cases h
theorem eqChk_spec {P : Program} {d : Nat} {t : TypeId} {sh : List Sh} (hd : d ≤ 10000) (h : eqChk P d t sh = true) : P.eqGuardType P.depth t = false ∧
   ∀ (xs ys : Array Value) (g : Bool), eqCells sh xs.toList ys.toList = some g → ∀ w, (Op.equalIn 10000 t (.agg xs) (.agg ys)).run P w = .ok g w := by
 simp only [eqChk, Bool.and_eq_true, decide_eq_true_eq, Bool.not_eq_true'] at h
 obtain ⟨h1, h2, h3⟩ := h
 refine ⟨h2, fun xs ys g hg w => ?_⟩
 have := eqShs_sound d t sh h1 10000 hd xs.toList ys.toList g hg w
 unfold mkV at this
 rw [h3] at this
 exact this
end Go.Vc
namespace Go.Vc
open Go
/-! ### Shorter words for printed conditions -/
abbrev slC (l : Sl) : Value := .slice l.a l.len l.cap
abbrev bkA (w : World) (i : Nat) : Addr := (blk w.heap.size).add i
abbrev ldC {α : Type} (w : World) (a : Addr) (mk : α → Value) (P : α → Prop) : Prop := ∃ x, w.cell? a = some (mk x) ∧ P x
abbrev soC {α : Type} (o : Option α) (P : α → Prop) : Prop := ∃ x, o = some x ∧ P x
abbrev brC (b : Bool) (A B : Prop) : Prop := (b = true → A) ∧ (b = false → B)
def stC (w : World) (a : Addr) (v : Value) (P : World → Prop) : Prop := Wr w a ∧ (let w' := w.setCell a v; P w')
def alC (w : World) (o : Obj) (P : World → Prop) : Prop := let w' := w.alloc o; P w'
def drC (w : World) (P : World → Prop) : Prop := let w' := w.drew; P w'
def H0 : Hints := { loop := fun _ => none, cut := fun _ => none }
end Go.Vc
