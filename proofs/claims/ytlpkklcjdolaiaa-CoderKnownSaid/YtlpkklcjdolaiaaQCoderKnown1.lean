/- YtlpkklcjdolaiaaQCoderKnown1: the law CoderKnown, and what it rests on: part of our own texts, merged. Conditions: none. -/
import Derived.WalkKit
import Derived.Below
import Derived.Orders
import Derived.Laws.Tables
import Derived.Deep.AppendSrc
import Derived.Deep.MidRow
import Derived.Room.Entries
import Derived.LoopN
/- The abstract machine, part 1: values, references, relations of values and of environments. Conditions: none. -/
set_option linter.unusedVariables false
set_option linter.unusedSimpArgs false
namespace Go.Corb
open Go Go.RowKit

/-- Where a reference lies: a block, the first cell, how many cells the block has. -/
structure RI where
  blk : Nat
  base : Nat
  n : Nat

abbrev RMap := Nat → Option RI
def RMap.Ext (ρ ρ' : RMap) : Prop := ∀ r i, ρ r = some i → ρ' r = some i
theorem RMap.Ext.refl (ρ : RMap) : ρ.Ext ρ := fun _ _ h => h
theorem RMap.Ext.trans {a b c : RMap} (h : a.Ext b) (k : b.Ext c) : a.Ext c := fun r i e => k r i (h r i e)

/-- A value of which nothing is known. -/
def top : Value := .tuple #[.tuple #[]]

/-- Values that are the same in every memory. -/
def scalarOK : Value → Bool
  | .bool _ => true
  | .int _ _ => true
  | .string _ => true
  | .pointer none => true
  | .slice none 0 0 => true
  | .map none => true
  | .nilFunc => true
  | .nilIface => true
  | _ => false

def constOK : Value → Bool
  | .agg cs => cs.all scalarOK
  | v => scalarOK v

inductive VR (ρ : RMap) : Value → Value → Prop
  | tp (v : Value) : VR ρ top v
  | und : VR ρ undef undef
  | sc (v : Value) (h : scalarOK v = true) : VR ρ v v
  | ptr (r o : Nat) (i : RI) (h : ρ r = some i) : VR ρ (.pointer (some ⟨r, o, none⟩)) (.pointer (some ⟨i.blk, i.base + o, none⟩))
  | sl (r o len cap : Nat) (i : RI) (h : ρ r = some i) : VR ρ (.slice (some ⟨r, o, none⟩) len cap) (.slice (some ⟨i.blk, i.base + o, none⟩) len cap)
  | slx (r o s len cap cap' : Nat) (i : RI) (h : ρ r = some i) (h0 : 0 < s) (hc : cap ≤ cap') (hn : i.base + o + cap' * s ≤ i.n) :
      VR ρ (.slice (some ⟨r, o, some s⟩) len cap) (.slice (some ⟨i.blk, i.base + o, none⟩) len cap')
  | wild (r : Nat) (a : Addr) (cap' : Nat) : VR ρ (.slice (some ⟨r, 0, some 0⟩) 0 0) (.slice (some a) 0 cap')
  | map (r : Nat) (i : RI) (h : ρ r = some i) : VR ρ (.map (some r)) (.map (some i.blk))
  | func (f : FuncId) (cs cs' : Array Value) (hs : cs.size = cs'.size) (h : ∀ j, VR ρ (cs.getD j undef) (cs'.getD j undef)) :
      VR ρ (.func (.func f) #[] cs) (.func (.func f) #[] cs')
  | agg (cs cs' : Array Value) (hs : cs.size = cs'.size) (h : ∀ j, VR ρ (cs.getD j undef) (cs'.getD j undef)) : VR ρ (.agg cs) (.agg cs')
  | tuple (cs cs' : Array Value) (h2 : 2 ≤ cs.size) (hs : cs.size = cs'.size) (h : ∀ j, VR ρ (cs.getD j undef) (cs'.getD j undef)) : VR ρ (.tuple cs) (.tuple cs')

theorem VR.mono {ρ ρ' : RMap} (e : ρ.Ext ρ') {v v' : Value} (h : VR ρ v v') : VR ρ' v v' := by
  induction h with
  | tp v => exact .tp v
  | und => exact .und
  | sc v h => exact .sc v h
  | ptr r o i h => exact .ptr r o i (e _ _ h)
  | sl r o len cap i h => exact .sl r o len cap i (e _ _ h)
  | slx r o s len cap cap' i h h0 hc hn => exact .slx r o s len cap cap' i (e _ _ h) h0 hc hn
  | wild r a cap' => exact .wild r a cap'
  | map r i h => exact .map r i (e _ _ h)
  | func f cs cs' hs _ ih => exact .func f cs cs' hs ih
  | agg cs cs' hs _ ih => exact .agg cs cs' hs ih
  | tuple cs cs' h2 hs _ ih => exact .tuple cs cs' h2 hs ih

theorem VR.of_scalar {ρ : RMap} {v v' : Value} (h : VR ρ v v') (hs : scalarOK v = true) : v' = v := by
  cases h <;> first | rfl | (simp [scalarOK, Corb.top, undef] at hs)

theorem VR.bool_inv {ρ : RMap} {b : Bool} {v' : Value} (h : VR ρ (.bool b) v') : v' = .bool b := h.of_scalar rfl
theorem VR.int_inv {ρ : RMap} {k : IntKind} {n : Int} {v' : Value} (h : VR ρ (.int k n) v') : v' = .int k n := h.of_scalar rfl
theorem VR.str_inv {ρ : RMap} {s : ByteArray} {v' : Value} (h : VR ρ (.string s) v') : v' = .string s := h.of_scalar rfl

theorem VR.const {ρ : RMap} {v : Value} (h : constOK v = true) : VR ρ v v := by
  cases v with
  | agg cs =>
    refine .agg cs cs rfl fun j => ?_
    by_cases hj : j < cs.size
    · have := Array.all_eq_true.1 h j hj
      simp only [Array.getD_eq_getD_getElem?, Array.getElem?_eq_getElem hj, Option.getD_some]
      exact .sc _ this
    · simp only [Array.getD_eq_getD_getElem?, Array.getElem?_eq_none (Nat.le_of_not_lt hj), Option.getD_none]
      exact .und
  | _ => exact .sc _ h

/-- Environments: the temporaries, one by one. -/
abbrev Env := Array Value
def ER (ρ : RMap) (a a' : Env) : Prop := a.size = a'.size ∧ ∀ t, VR ρ (a.getD t undef) (a'.getD t undef)

theorem ER.mono {ρ ρ' : RMap} (e : ρ.Ext ρ') {a a' : Env} (h : ER ρ a a') : ER ρ' a a' := ⟨h.1, fun t => (h.2 t).mono e⟩

theorem getD_setIfInBounds {α : Type} (a : Array α) (d t : Nat) (v u : α) :
    (a.setIfInBounds d v).getD t u = if d = t ∧ t < a.size then v else a.getD t u := by
  simp only [Array.getD_eq_getD_getElem?, Array.getElem?_setIfInBounds]
  by_cases h : d = t
  · subst h
    by_cases hs : d < a.size
    · simp [hs]
    · simp [hs]
  · simp [h]

theorem ER.set {ρ : RMap} {a a' : Env} (h : ER ρ a a') (d : Nat) {v v' : Value} (hv : VR ρ v v') : ER ρ (a.setIfInBounds d v) (a'.setIfInBounds d v') := by
  refine ⟨by simp [h.1], fun t => ?_⟩
  rw [getD_setIfInBounds, getD_setIfInBounds, h.1]
  split
  · exact hv
  · exact h.2 t

def Env.put (a : Env) (dst : Option Tmp) (v : Value) : Env :=
  match dst with
  | some d => a.setIfInBounds d v
  | none => a

theorem ER.put {ρ : RMap} {a : Env} {b : Act} (h : ER ρ a b.tmps) (dst : Option Tmp) {v v' : Value} (hv : VR ρ v v') : ER ρ (Env.put a dst v) (b.put dst v').tmps := by
  cases dst with
  | none => exact h
  | some d => exact h.set d hv

/-- What is known of an operand. -/
def aev (a : Env) : Operand → Value
  | .tmp t => a.getD t undef
  | .const v => if constOK v then v else top
  | .global _ => top
  | .func f => .func (.func f) #[] #[]

theorem ER.ev {ρ : RMap} {a : Env} {b : Act} (h : ER ρ a b.tmps) (x : Operand) : VR ρ (aev a x) (b.eval x) := by
  cases x with
  | tmp t => exact h.2 t
  | const v =>
    simp only [aev, Act.eval]
    split
    · exact .const ‹_›
    · exact .tp _
  | global g => exact .tp _
  | func f => exact .func f #[] #[] rfl fun j => by simp; exact .und

/-- Forget all but some slots. -/
def restrict (L : List Nat) (a : Env) : Env := ((List.range a.size).map fun t => if L.contains t then a.getD t undef else top).toArray

theorem restrict_getD (L : List Nat) (a : Env) (t : Nat) : (restrict L a).getD t undef = if t < a.size then (if L.contains t then a.getD t undef else top) else undef := by
  simp only [restrict, Array.getD_eq_getD_getElem?, List.getElem?_toArray, List.getElem?_map]
  by_cases h : t < a.size
  · simp [h]
  · simp [h]

theorem ER.restrict {ρ : RMap} {a a' : Env} (h : ER ρ a a') (L : List Nat) : ER ρ (restrict L a) a' := by
  refine ⟨by simp [Corb.restrict, h.1], fun t => ?_⟩
  rw [restrict_getD]
  by_cases ht : t < a.size
  · rw [if_pos ht]
    by_cases hl : L.contains t = true
    · rw [if_pos hl]; exact h.2 t
    · rw [if_neg hl]; exact .tp _
  · rw [if_neg ht]
    simp only [Array.getD_eq_getD_getElem?, Array.getElem?_eq_none (show a'.size ≤ t by rw [← h.1]; omega), Option.getD_none]
    exact .und

/-- Objects of the abstract memory: a row of cells (may it be written?); anything else that holds no address. -/
inductive AObj where
  | cells (c : List Value) (ro : Bool)
  | other (o : Obj)

def AObj.ro : AObj → Bool
  | .cells _ r => r
  | .other _ => false

structure AS where
  heap : Nat → Option AObj
  next : Nat
  prot : Nat → Bool

def AS.put (σ : AS) (r : Nat) (o : AObj) : AS := { σ with heap := fun q => if q = r then some o else σ.heap q }
def AS.del (σ : AS) (r : Nat) : AS := { σ with heap := fun q => if q = r then none else σ.heap q }

def scalarObj : Obj → Bool
  | .map es _ => es.all fun e => scalarOK e.key && scalarOK e.val
  | .stringIter _ _ => true
  | _ => false

/-- An object as it lies in the world. B: the heap's size when the call of the law began. -/
def OR (B : Nat) (ρ : RMap) (o : AObj) (i : RI) (w : World) : Prop :=
  match o with
  | .cells c ro => ∃ cs e fr, w.heap[i.blk]? = some (.cells cs e fr) ∧ cs.size = i.n ∧ i.base + c.length ≤ i.n ∧
      (∀ j, j < c.length → VR ρ (c.getD j undef) (cs.getD (i.base + j) undef)) ∧
      (ro = false → B ≤ i.blk ∧ ∀ j, j < i.n → ¬ (fr.1 ≤ j ∧ j < fr.2))
  | .other ob => scalarObj ob = true ∧ w.heap[i.blk]? = some ob ∧ B ≤ i.blk

/-- The relation of the abstract memory to the world. -/
structure Rel (B : Nat) (w0 : World) (ρ : RMap) (σ : AS) (w : World) : Prop where
  below : Below B w0 w
  hB : B ≤ w.heap.size
  objs : ∀ r o, σ.heap r = some o → ∃ i, ρ r = some i ∧ OR B ρ o i w
  sep : ∀ r q o u i k, σ.heap r = some o → σ.heap q = some u → ρ r = some i → ρ q = some k → o.ro = false → r ≠ q → i.blk ≠ k.blk
  lt : ∀ r i, ρ r = some i → i.blk < w.heap.size

end Go.Corb

/- The abstract machine, part 2: the operations that touch no memory. Conditions: none. -/
set_option linter.unusedVariables false
set_option linter.unusedSimpArgs false
namespace Go.Corb
open Go Go.RowKit
variable (P : Program)

def szT (t : TypeId) : Option Nat := (P.info? t).map (·.size)
def aggT (t : TypeId) : Option Bool := (P.underlying t).map fun d => match d with | .struct _ | .array _ _ => true | _ => false

def aEq (t : TypeId) (x y : Value) : Option Bool :=
  match P.underlying t, x, y with
  | some .bool, .bool a, .bool b => some (a == b)
  | some (.pointer _), .pointer none, .pointer b => some b.isNone
  | some (.pointer _), .pointer (some _), .pointer none => some false
  | some (.slice _), .slice none _ _, .slice b _ _ => some b.isNone
  | some (.slice _), .slice (some _) _ _, .slice none _ _ => some false
  | some (.map _ _), .map none, .map b => some b.isNone
  | some (.map _ _), .map (some _), .map none => some false
  | some (.func _ _ _), .nilFunc, .nilFunc => some true
  | some (.func _ _ _), .nilFunc, .func _ _ _ => some false
  | some (.func _ _ _), .func _ _ _, .nilFunc => some false
  | _, _, _ => none

def aInt (op : BinOp) (k : IntKind) (a b : Int) : Option Value :=
  match op with
  | .add => some (.int k (k.wrap (a + b)))
  | .sub => some (.int k (k.wrap (a - b)))
  | .mul => some (.int k (k.wrap (a * b)))
  | .quo => if b = 0 then none else some (.int k (k.wrap (a.tdiv b)))
  | .rem => if b = 0 then none else some (.int k (a.tmod b))
  | .and => some (.int k (k.wrap (BitVec.ofInt k.bits a &&& BitVec.ofInt k.bits b).toNat))
  | .or => some (.int k (k.wrap (BitVec.ofInt k.bits a ||| BitVec.ofInt k.bits b).toNat))
  | .xor => some (.int k (k.wrap (BitVec.ofInt k.bits a ^^^ BitVec.ofInt k.bits b).toNat))
  | .andNot => some (.int k (k.wrap (BitVec.ofInt k.bits a &&& ~~~ BitVec.ofInt k.bits b).toNat))
  | .eql => some (.bool (a == b))
  | .neq => some (.bool (a != b))
  | .lss => some (.bool (decide (a < b)))
  | .leq => some (.bool (decide (a ≤ b)))
  | .gtr => some (.bool (decide (a > b)))
  | .geq => some (.bool (decide (a ≥ b)))
  | .shl => if b < 0 then none else some (.int k (k.wrap (a * 2 ^ (min b.toNat k.bits))))
  | .shr => if b < 0 then none else some (.int k (a.fdiv (2 ^ (min b.toNat k.bits))))

def aStr (op : BinOp) (x y : ByteArray) : Option Value :=
  match op with
  | .add => if ((x.size + y.size : Nat) : Int) > IntKind.i64.max then none else some (.string (x ++ y))
  | .eql => some (.bool (x.toList == y.toList))
  | .neq => some (.bool !(x.toList == y.toList))
  | .lss => some (.bool (Op.bytesLess x.toList y.toList))
  | .leq => some (.bool (Op.bytesLess x.toList y.toList || x.toList == y.toList))
  | .gtr => some (.bool !(Op.bytesLess x.toList y.toList || x.toList == y.toList))
  | .geq => some (.bool !(Op.bytesLess x.toList y.toList))
  | _ => none

def isShift : BinOp → Bool
  | .shl | .shr => true
  | _ => false

def aBin (op : BinOp) (t : TypeId) (x y : Value) : Option Value :=
  match x, y with
  | .int k a, .int k' b => if isShift op || k == k' then aInt op k a b else none
  | .string a, .string b => aStr op a b
  | x, y => match op with
    | .eql => (aEq P t x y).map .bool
    | .neq => (aEq P t x y).map fun b => .bool !b
    | _ => none

theorem eqGuard_run (op : BinOp) (t : TypeId) (x y : Operand) (a b : Value) (ha : ∀ cs, a ≠ .agg cs) (hn : a ≠ .nilIface) (w : World) :
    (eqGuard op t x y a b).run P w = .ok () w := by
  cases op <;> (try rfl) <;> cases a <;> first | rfl | exact absurd rfl hn | exact absurd rfl (ha _)

theorem aInt_run {op : BinOp} {t : TypeId} {k k' : IntKind} {a b : Int} {v : Value} (hk : isShift op = true ∨ k = k') (h : aInt op k a b = some v) (w : World) :
    (binOp op t (.int k a) (.int k' b)).run P w = .ok v w := by
  cases op <;> simp only [isShift, Bool.false_eq_true, false_or, true_or] at hk <;> (try subst hk) <;>
    simp only [aInt] at h <;> (try split at h) <;> (try injection h with h) <;> (try subst h) <;>
    simp_all [binOp, Op.intArith, Op.intDiv, Op.intBits, Op.intCmp, Op.shift, Sem.run_pure, Sem.run]
  all_goals (intro hb; exfalso; omega)

theorem aStr_run {op : BinOp} {t : TypeId} {a b : ByteArray} {v : Value} (h : aStr op a b = some v) (w : World) :
    (binOp op t (.string a) (.string b)).run P w = .ok v w := by
  cases op <;> simp only [aStr] at h <;> (try split at h) <;> (try injection h with h) <;> (try subst h) <;> (try cases h) <;>
    simp_all [binOp, Op.stringOp, Sem.run_pure]

theorem run_equal_nil {t : TypeId} {x y : Value} {r : Bool} (h : aEq P t x y = some r) {ρ : RMap} {x' y' : Value} (hx : VR ρ x x') (hy : VR ρ y y') (w : World) :
    (Op.equal t x' y').run P w = .ok r w ∧ (∀ k n, x' ≠ .int k n) ∧ (∀ k n, y' ≠ .int k n) ∧ (∀ s, x' ≠ .string s) ∧ (∀ cs, x' ≠ .agg cs) ∧ x' ≠ .nilIface ∧
      (∀ k n, x' ≠ .float k n) ∧ (∀ k n m, x' ≠ .complex k n m) := by
  unfold aEq at h
  split at h <;> first | cases h | skip
  all_goals
    rename_i hu
    have e : ∀ x y, Op.equal t x y = Op.equalIn (9999 + 1) t x y := fun _ _ => rfl
    rw [e]
    generalize 9999 = d
    cases hx <;> cases hy <;>
      first
        | (exfalso; simp_all [scalarOK]; done)
        | simp [Op.equalIn, run_underlying hu]

theorem aBin_run {op : BinOp} {t : TypeId} {x y v : Value} (h : aBin P op t x y = some v) {ρ : RMap} {x' y' : Value} (hx : VR ρ x x') (hy : VR ρ y y') (ox oy : Operand) (w : World) :
    (do eqGuard op t ox oy x' y'; binOp op t x' y').run P w = .ok v w ∧ scalarOK v = true := by
  unfold aBin at h
  split at h
  · rename_i k a k' b
    obtain rfl := hx.int_inv
    obtain rfl := hy.int_inv
    split at h
    · rename_i hc
      have hk : isShift op = true ∨ k = k' := by simpa using hc
      rw [Sem.run_bind, eqGuard_run P op t ox oy _ _ (by simp) (by simp)]
      refine ⟨by simpa using aInt_run P (t := t) hk h w, ?_⟩
      cases op <;> simp only [aInt] at h <;> (try split at h) <;> (try injection h with h) <;> (try subst h) <;> first | rfl | cases h
    · cases h
  · rename_i a b
    obtain rfl := hx.str_inv
    obtain rfl := hy.str_inv
    rw [Sem.run_bind, eqGuard_run P op t ox oy _ _ (by simp) (by simp)]
    refine ⟨by simpa using aStr_run P (t := t) h w, ?_⟩
    cases op <;> simp only [aStr] at h <;> (try split at h) <;> (try injection h with h) <;> (try subst h) <;> first | rfl | cases h
  · split at h
    · obtain ⟨r, hr, rfl⟩ := Option.map_eq_some_iff.1 h
      obtain ⟨he, h1, h2, h3, h4, h5, h6, h7⟩ := run_equal_nil P hr hx hy w
      rw [Sem.run_bind, eqGuard_run P _ t ox oy _ _ h4 h5]
      refine ⟨?_, rfl⟩
      cases x' <;> simp_all [binOp]
    · obtain ⟨r, hr, rfl⟩ := Option.map_eq_some_iff.1 h
      obtain ⟨he, h1, h2, h3, h4, h5, h6, h7⟩ := run_equal_nil P hr hx hy w
      rw [Sem.run_bind, eqGuard_run P _ t ox oy _ _ h4 h5]
      refine ⟨?_, rfl⟩
      cases x' <;> simp_all [binOp]
    · cases h

end Go.Corb

/- The abstract machine, part 3: the other operations that touch no memory. Conditions: none. -/
set_option linter.unusedVariables false
set_option linter.unusedSimpArgs false
namespace Go.Corb
open Go Go.RowKit
variable (P : Program)

theorem run_sizeOf {P : Program} {t : TypeId} {n : Nat} (h : szT P t = some n) (w : World) : (sizeOf t).run P w = .ok n w := by
  unfold szT at h
  obtain ⟨i, hi, rfl⟩ := Option.map_eq_some_iff.1 h
  simp [sizeOf, typeInfo, hi]

theorem run_isAgg {P : Program} {t : TypeId} {b : Bool} (h : aggT P t = some b) (w : World) : (isAgg t).run P w = .ok b w := by
  unfold aggT at h
  obtain ⟨d, hd, rfl⟩ := Option.map_eq_some_iff.1 h
  simp only [isAgg, Sem.run_bind, run_underlying hd, Result.andThen_ok]
  cases d <;> rfl

/-- A wholly unknown empty slice, not nil: its place and its capacity are unknown; nothing may be appended to it. -/
def wildSl (r : Nat) : Value := .slice (some ⟨r, 0, some 0⟩) 0 0

def aUn (op : UnOp) (x : Value) : Option Value :=
  match op, x with
  | .neg, .int k n => some (.int k (k.wrap (0 - n)))
  | .xor, .int k n => some (.int k (k.wrap (BitVec.ofInt k.bits (if k.signed then -1 else k.max) ^^^ BitVec.ofInt k.bits n).toNat))
  | .not, .bool b => some (.bool !b)
  | _, _ => none

theorem aUn_run {op : UnOp} {x v : Value} (h : aUn op x = some v) {ρ : RMap} {x' : Value} (hx : VR ρ x x') (w : World) :
    (Op.unary op x').run P w = .ok v w ∧ scalarOK v = true := by
  unfold aUn at h
  split at h <;> first | (cases h; done) | skip
  · obtain rfl := hx.int_inv; injection h with h; subst h; exact ⟨rfl, rfl⟩
  · obtain rfl := hx.int_inv; injection h with h; subst h; exact ⟨rfl, rfl⟩
  · obtain rfl := hx.bool_inv; injection h with h; subst h; exact ⟨rfl, rfl⟩

def aConv (src dst : TypeId) (x : Value) : Option Value :=
  match P.underlying src, P.underlying dst, x with
  | some _, some (.int k), .int _ n => some (.int k (k.wrap n))
  | some _, some .string, .string s => some (.string s)
  | _, _, _ => none

theorem aConv_run {src dst : TypeId} {x v : Value} (h : aConv P src dst x = some v) {ρ : RMap} {x' : Value} (hx : VR ρ x x') (w : World) :
    (convert src dst x').run P w = .ok v w ∧ scalarOK v = true := by
  unfold aConv at h
  split at h <;> first | (cases h; done) | skip
  · rename_i _ _ _ _ _ hs hd
    obtain rfl := hx.int_inv; injection h with h; subst h
    refine ⟨?_, rfl⟩
    simp only [convert, Sem.run_bind, run_underlying hs, run_underlying hd, Result.andThen_ok]
    rfl
  · rename_i _ _ _ _ hs hd
    obtain rfl := hx.str_inv; injection h with h; subst h
    refine ⟨?_, rfl⟩
    simp only [convert, Sem.run_bind, run_underlying hs, run_underlying hd, Result.andThen_ok]
    rfl

/-! ### slices of slices, strings, arrays -/
def aBound (x : Value) (y : Nat) : Option Nat :=
  match x with
  | .int _ i => if 0 ≤ i ∧ i ≤ y then some i.toNat else none
  | _ => none

theorem aBound_run {x : Value} {y n : Nat} (h : aBound x y = some n) {ρ : RMap} {x' : Value} (hx : VR ρ x x') (code : BoundsCode) (y' : Nat) (hy : y ≤ y') (w : World) :
    (Instr.sliceBound x' y' code).run P w = .ok n w := by
  unfold aBound at h
  split at h
  · obtain rfl := hx.int_inv
    split at h
    · rename_i hb
      injection h with h; subst h
      rename_i k i
      have h2 : i ≤ (y' : Int) := by omega
      simp [Instr.sliceBound, asIntOf, hb.1, h2]
    · cases h
  · cases h

/-- low, high, max; 'cap': what surely is there. -/
def aBounds (len cap : Nat) (lo hi mx : Option Value) : Option (Nat × Nat × Nat) :=
  (match mx with
   | some v => aBound v cap
   | none => some cap).bind fun m =>
  (match hi, mx with
   | some v, _ => aBound v m
   | none, none => some len
   | none, some _ => none).bind fun h =>
  (match lo with
   | some v => aBound v h
   | none => some 0).bind fun l => some (l, h, m)

theorem aBounds_run {ρ : RMap} {a : Env} {b : Act} (hE : ER ρ a b.tmps) {lo hi mx : Option Operand} {len cap l h m : Nat}
    (hb : aBounds len cap (lo.map (aev a)) (hi.map (aev a)) (mx.map (aev a)) = some (l, h, m)) (is : Bool) (cap' : Nat) (hc : cap ≤ cap') (w : World) :
    (Instr.sliceBounds is len cap' (lo.map b.eval) (hi.map b.eval) (mx.map b.eval)).run P w = .ok (l, h, if mx.isSome then m else cap') w ∧
      (mx = none → m = cap) ∧ m ≤ cap ∧ l ≤ h ∧ (hi.isSome = true → h ≤ m) ∧ (hi = none → h = len) := by
  unfold aBounds at hb
  obtain ⟨m0, hm, hb⟩ := Option.bind_eq_some_iff.1 hb
  obtain ⟨h0, hh, hb⟩ := Option.bind_eq_some_iff.1 hb
  obtain ⟨l0, hl, hb⟩ := Option.bind_eq_some_iff.1 hb
  simp only [Option.some.injEq, Prod.mk.injEq] at hb
  obtain ⟨rfl, rfl, rfl⟩ := hb
  have bd : ∀ {x : Value} {y n : Nat}, aBound x y = some n → n ≤ y := by
    intro x y n h
    unfold aBound at h
    split at h
    · split at h
      · injection h with h; omega
      · cases h
    · cases h
  cases mx with
  | none =>
    simp only [Option.map_none, Option.some.injEq] at hm
    subst hm
    cases hi with
    | none =>
      simp only [Option.map_none, Option.some.injEq] at hh
      subst hh
      cases lo with
      | none =>
        simp only [Option.map_none, Option.some.injEq] at hl
        subst hl
        simp [Instr.sliceBounds]
      | some xl =>
        have r := aBound_run P hl (hE.ev xl) .sliceB len (Nat.le_refl _) w
        have := bd hl
        simp [Instr.sliceBounds, r]; omega
    | some xh =>
      have r2 := aBound_run P hh (hE.ev xh) (if is then .sliceAcap else .sliceAlen) cap' hc w
      have b2 := bd hh
      cases lo with
      | none =>
        simp only [Option.map_none, Option.some.injEq] at hl
        subst hl
        simp [Instr.sliceBounds, r2]; omega
      | some xl =>
        have r := aBound_run P hl (hE.ev xl) .sliceB h0 (Nat.le_refl _) w
        have := bd hl
        simp [Instr.sliceBounds, r2, r]; omega
  | some xm =>
    cases hi with
    | none => simp at hh
    | some xh =>
      have r3 := aBound_run P hm (hE.ev xm) (if is then .slice3Acap else .slice3Alen) cap' hc w
      have r2 := aBound_run P hh (hE.ev xh) .slice3B m0 (Nat.le_refl _) w
      have b3 := bd hm
      have b2 := bd hh
      cases lo with
      | none =>
        simp only [Option.map_none, Option.some.injEq] at hl
        subst hl
        simp [Instr.sliceBounds, r3, r2]; omega
      | some xl =>
        have r := aBound_run P hl (hE.ev xl) .slice3C h0 (Nat.le_refl _) w
        have := bd hl
        simp [Instr.sliceBounds, r3, r2, r]; omega

def aSlice (t : TypeId) (x : Value) (lo hi mx : Option Value) : Option Value :=
  match P.underlying t, x with
  | some .string, .string s => if mx.isSome then none else (aBounds s.size s.size lo hi mx).map fun q => .string (s.extract q.1 q.2.1)
  | some (.slice e), .slice none 0 0 => (szT P e).bind fun _ => (aBounds 0 0 lo hi mx).map fun _ => .slice none 0 0
  | some (.slice e), .slice (some ⟨r, o, none⟩) len cap =>
    (szT P e).bind fun size => (aBounds len cap lo hi mx).map fun q => .slice (some ⟨r, if q.2.2 = q.1 then o else o + q.1 * size, none⟩) (q.2.1 - q.1) (q.2.2 - q.1)
  | some (.slice e), .slice (some ⟨r, o, some s⟩) len cap =>
    (szT P e).bind fun size =>
    if s = 0 then (if o = 0 ∧ len = 0 ∧ cap = 0 then (aBounds 0 0 lo hi mx).map fun _ => wildSl r else none)
    else if size = s ∧ len ≤ cap then (aBounds len cap lo hi mx).map fun q =>
      if mx.isSome then .slice (some ⟨r, if q.2.2 = q.1 then o else o + q.1 * size, none⟩) (q.2.1 - q.1) (q.2.2 - q.1)
      else if q.1 < cap ∨ q.1 = 0 then .slice (some ⟨r, o + q.1 * size, some s⟩) (q.2.1 - q.1) (cap - q.1)
      else wildSl r
    else none
  | some (.array n e), .pointer (some ⟨r, o, none⟩) =>
    (szT P e).bind fun size => (aBounds n n lo hi mx).map fun q => .slice (some ⟨r, if q.2.2 = q.1 then o else o + q.1 * size, none⟩) (q.2.1 - q.1) (q.2.2 - q.1)
  | _, _ => none

theorem add_lit' (b o n : Nat) : (⟨b, o, none⟩ : Addr).add n = ⟨b, o + n, none⟩ := by unfold Addr.add; split <;> simp_all

theorem aSlice_run {ρ : RMap} {a : Env} {b : Act} (hE : ER ρ a b.tmps) {t : TypeId} {x v : Value} {lo hi mx : Option Operand}
    (h : aSlice P t x (lo.map (aev a)) (hi.map (aev a)) (mx.map (aev a)) = some v) {x' : Value} (hx : VR ρ x x') (w : World) :
    ∃ v', (Instr.sliceAt t x' (lo.map b.eval) (hi.map b.eval) (mx.map b.eval)).run P w = .ok v' w ∧ VR ρ v v' := by
  unfold aSlice at h
  split at h
  · -- string
    rename_i s hu
    obtain rfl := hx.str_inv
    split at h
    · cases h
    · rename_i hm
      obtain ⟨⟨l, hh, m⟩, hq, rfl⟩ := Option.map_eq_some_iff.1 h
      obtain ⟨hr, h1, h2, h3, h4, h5⟩ := aBounds_run P hE hq false s.size (Nat.le_refl _) w
      have hm' : mx = none := by cases mx <;> simp_all
      subst hm'
      simp only [Option.map_none, Option.isSome_none, Bool.false_eq_true, if_false] at hr
      exact ⟨.string (s.extract l hh), by simp [Instr.sliceAt, Instr.slice, run_underlying hu, hr], .sc _ rfl⟩
  · rename_i e hu
    obtain rfl := hx.of_scalar rfl
    obtain ⟨size, hs, g⟩ := Option.bind_eq_some_iff.1 h
    clear h
    have h := g
    clear g
    obtain ⟨⟨l, hh, m⟩, hq, rfl⟩ := Option.map_eq_some_iff.1 h
    obtain ⟨hr, h1, h2, h3, h4, h5⟩ := aBounds_run P hE hq true 0 (Nat.le_refl _) w
    have e1 : hh = 0 := by cases hi with | none => exact h5 rfl | some _ => have := h4 rfl; omega
    have e2 : l = 0 := by omega
    have e3 : m = 0 := by omega
    subst e1 e2 e3
    exact ⟨.slice none 0 0, by simp [Instr.sliceAt, Instr.slice, run_underlying hu, hr, run_sizeOf hs], .sc _ rfl⟩
  · rename_i e r o len cap hu
    obtain ⟨size, hs, g⟩ := Option.bind_eq_some_iff.1 h
    clear h
    have h := g
    clear g
    obtain ⟨⟨l, hh, m⟩, hq, rfl⟩ := Option.map_eq_some_iff.1 h
    cases hx with
    | sc _ hsc => cases hsc
    | sl _ _ _ _ i hi' =>
      obtain ⟨hr, h1, h2, h3, h4, h5⟩ := aBounds_run P hE hq true cap (Nat.le_refl _) w
      have hm : (if mx.isSome = true then m else cap) = m := by cases mx with | none => simp [h1 rfl] | some _ => rfl
      rw [hm] at hr
      refine ⟨_, by simp [Instr.sliceAt, Instr.slice, run_underlying hu, hr, run_sizeOf hs]; rfl, ?_⟩
      by_cases hml : m = l
      · simp only [hml, if_true]; exact .sl _ _ _ _ i hi'
      · simp only [hml, if_false, Option.map_some, add_lit', Nat.add_assoc]; exact .sl _ _ _ _ i hi'
  · rename_i e r o s len cap hu
    obtain ⟨size, hs, g⟩ := Option.bind_eq_some_iff.1 h
    clear h
    have h := g
    clear g
    split at h
    · rename_i hs0
      subst hs0
      split at h
      · rename_i hz
        obtain ⟨rfl, rfl, rfl⟩ := hz
        obtain ⟨⟨l, hh, m⟩, hq, rfl⟩ := Option.map_eq_some_iff.1 h
        cases hx with
        | sc _ hsc => cases hsc
        | slx _ _ _ _ _ cap' i hi' h0 => exact absurd h0 (by omega)
        | wild _ a' cap' =>
          obtain ⟨hr, h1, h2, h3, h4, h5⟩ := aBounds_run P hE hq true cap' (Nat.zero_le _) w
          have e1 : hh = 0 := by cases hi with | none => exact h5 rfl | some _ => have := h4 rfl; omega
          have e2 : l = 0 := by omega
          have e3 : m = 0 := by omega
          subst e1 e2 e3
          refine ⟨_, by simp [Instr.sliceAt, Instr.slice, run_underlying hu, hr, run_sizeOf hs]; rfl, ?_⟩
          cases mx with
          | none =>
            by_cases hc0 : cap' = 0
            · simp [hc0]; exact .wild r _ _
            · simp [hc0]; exact .wild r _ _
          | some _ => simp; exact .wild r _ _
      · cases h
    · rename_i hs0
      split at h
      · rename_i hsz
        obtain ⟨rfl, hlc⟩ := hsz
        obtain ⟨⟨l, hh, m⟩, hq, rfl⟩ := Option.map_eq_some_iff.1 h
        cases hx with
        | sc _ hsc => cases hsc
        | wild => exact absurd rfl hs0
        | slx _ _ _ _ _ cap' i hi' h0 hcc hn =>
          obtain ⟨hr, h1, h2, h3, h4, h5⟩ := aBounds_run P hE hq true cap' hcc w
          cases mx with
          | some xm =>
            simp only [Option.isSome_some, Option.map_some, if_true] at hr ⊢
            refine ⟨_, by simp [Instr.sliceAt, Instr.slice, run_underlying hu, hr, run_sizeOf hs]; rfl, ?_⟩
            by_cases hml : m = l
            · simp only [hml, if_true]; exact .sl _ _ _ _ i hi'
            · simp only [hml, if_false, Option.map_some, add_lit', Nat.add_assoc]; exact .sl _ _ _ _ i hi'
          | none =>
            have hmc := h1 rfl
            subst hmc
            have hhc : hh ≤ m := by cases hi with | none => rw [h5 rfl]; exact hlc | some _ => exact h4 rfl
            simp only [Option.isSome_none, Option.map_none, Bool.false_eq_true, if_false] at hr ⊢
            refine ⟨_, by simp [Instr.sliceAt, Instr.slice, run_underlying hu, hr, run_sizeOf hs]; rfl, ?_⟩
            by_cases hl : l < m ∨ l = 0
            · simp only [hl, if_true]
              by_cases hml : cap' = l
              · have e2 : l = 0 := by omega
                subst e2
                simp only [hml, if_true, Nat.zero_mul, Nat.add_zero, Nat.sub_zero]
                exact .slx _ _ _ _ _ _ i hi' h0 (by omega) (by rw [hml] at hn; exact hn)
              · simp only [hml, if_false, Option.map_some, add_lit', Nat.add_assoc]
                refine .slx _ _ _ _ _ _ i hi' h0 (by omega) ?_
                have : l * size + (cap' - l) * size = cap' * size := by rw [← Nat.add_mul]; congr 1; omega
                omega
            · simp only [hl, if_false]
              have : hh - l = 0 := by omega
              rw [this]
              split
              · exact .wild r _ _
              · exact .wild r _ _
      · cases h
  · rename_i n e r o hu
    obtain ⟨size, hs, g⟩ := Option.bind_eq_some_iff.1 h
    clear h
    have h := g
    clear g
    obtain ⟨⟨l, hh, m⟩, hq, rfl⟩ := Option.map_eq_some_iff.1 h
    cases hx with
    | sc _ hsc => cases hsc
    | ptr _ _ i hi' =>
      obtain ⟨hr, h1, h2, h3, h4, h5⟩ := aBounds_run P hE hq false n (Nat.le_refl _) w
      have hm : (if mx.isSome = true then m else n) = m := by cases mx with | none => simp [h1 rfl] | some _ => rfl
      rw [hm] at hr
      refine ⟨_, by simp [Instr.sliceAt, Instr.sureAddr, run_underlying hu, hr, run_sizeOf hs]; rfl, ?_⟩
      by_cases hml : m = l
      · simp only [hml, if_true]; exact .sl _ _ _ _ i hi'
      · simp only [hml, if_false, Option.map_some, add_lit', Nat.add_assoc]; exact .sl _ _ _ _ i hi'
  · cases h

end Go.Corb

/- The abstract machine, part 4: the operations that touch no memory, gathered; each is what the model does. Conditions: none. -/
set_option linter.unusedVariables false
set_option linter.unusedSimpArgs false
namespace Go.Corb
open Go Go.RowKit
variable (P : Program)

def aFieldAddr (s : TypeId) (x : Value) (f : Nat) : Option Value :=
  match P.underlying s, x with
  | some (.struct fields), .pointer (some ⟨r, o, none⟩) =>
    (fields[f]?).bind fun fd => (szT P fd.type).bind fun n => if n = 0 then none else some (.pointer (some ⟨r, o + fd.offset, none⟩))
  | _, _ => none

theorem aFieldAddr_run {s : TypeId} {x v : Value} {f : Nat} (h : aFieldAddr P s x f = some v) {ρ : RMap} {x' : Value} (hx : VR ρ x x') (w : World) :
    ∃ v', (Instr.fieldAt s x' f).run P w = .ok v' w ∧ VR ρ v v' := by
  unfold aFieldAddr at h
  split at h
  · rename_i fields r o hu
    obtain ⟨fd, hf, g⟩ := Option.bind_eq_some_iff.1 h
    obtain ⟨n, hn, g⟩ := Option.bind_eq_some_iff.1 g
    split at g
    · cases g
    · rename_i hne
      injection g with g
      subst g
      cases hx with
      | sc _ hsc => cases hsc
      | ptr _ _ i hi =>
        refine ⟨.pointer (some ⟨i.blk, i.base + (o + fd.offset), none⟩), ?_, .ptr _ _ i hi⟩
        simp [Instr.fieldAt, run_underlying hu, hf, Instr.sureAddr, fieldPlace, run_sizeOf hn, hne, add_lit', Nat.add_assoc]
  · cases h

def aPart (t : TypeId) (cs : Array Value) (off : Nat) : Option Value :=
  (aggT P t).bind fun g => if g then (szT P t).bind fun n => if off + n ≤ cs.size then some (.agg (cs.extract off (off + n))) else none else cs[off]?

theorem VR_getD {ρ : RMap} {cs cs' : Array Value} (hs : cs.size = cs'.size) (h : ∀ j, VR ρ (cs.getD j undef) (cs'.getD j undef)) {j : Nat} {v : Value} (hv : cs[j]? = some v) :
    ∃ v', cs'[j]? = some v' ∧ VR ρ v v' := by
  have hj : j < cs.size := (Array.getElem?_eq_some_iff.1 hv).1
  have := h j
  simp only [Array.getD_eq_getD_getElem?, hv, Option.getD_some, Array.getElem?_eq_getElem (show j < cs'.size by omega)] at this
  exact ⟨_, Array.getElem?_eq_getElem (by omega), this⟩

theorem VR_extract {ρ : RMap} {cs cs' : Array Value} (hs : cs.size = cs'.size) (h : ∀ j, VR ρ (cs.getD j undef) (cs'.getD j undef)) (a b : Nat) :
    (cs.extract a b).size = (cs'.extract a b).size ∧ ∀ j, VR ρ ((cs.extract a b).getD j undef) ((cs'.extract a b).getD j undef) := by
  refine ⟨by simp [hs], fun j => ?_⟩
  simp only [Array.getD_eq_getD_getElem?, Array.getElem?_extract, hs]
  by_cases hj : j < min b cs'.size - a
  · rw [if_pos hj, if_pos hj]
    simpa only [Array.getD_eq_getD_getElem?] using h (a + j)
  · rw [if_neg hj, if_neg hj]
    exact .und

theorem aPart_run {t : TypeId} {cs cs' : Array Value} {off : Nat} {v : Value} (h : aPart P t cs off = some v) {ρ : RMap} (hs : cs.size = cs'.size)
    (hc : ∀ j, VR ρ (cs.getD j undef) (cs'.getD j undef)) (w : World) : ∃ v', (part t cs' off).run P w = .ok v' w ∧ VR ρ v v' := by
  unfold aPart at h
  obtain ⟨g, hg, h2⟩ := Option.bind_eq_some_iff.1 h
  cases g with
  | true =>
    simp only [if_true] at h2
    obtain ⟨n, hn, h3⟩ := Option.bind_eq_some_iff.1 h2
    split at h3
    · injection h3 with h3
      subst h3
      obtain ⟨e1, e2⟩ := VR_extract hs hc off (off + n)
      exact ⟨.agg (cs'.extract off (off + n)), by simp [part, run_isAgg hg, run_sizeOf hn], .agg _ _ e1 e2⟩
    · cases h3
  | false =>
    simp only [Bool.false_eq_true, if_false] at h2
    obtain ⟨v', hv', hr⟩ := VR_getD hs hc h2
    exact ⟨v', by simp [part, run_isAgg hg, hv'], hr⟩

def aField (t : TypeId) (x : Value) (f : Nat) : Option Value :=
  match P.underlying t, x with
  | some (.struct fields), .agg cs => (fields[f]?).bind fun fd => aPart P fd.type cs fd.offset
  | _, _ => none

theorem aField_run {t : TypeId} {x v : Value} {f : Nat} (h : aField P t x f = some v) {ρ : RMap} {x' : Value} (hx : VR ρ x x') (w : World) :
    ∃ v', (Instr.field t x' f).run P w = .ok v' w ∧ VR ρ v v' := by
  unfold aField at h
  split at h
  · rename_i fields cs hu
    obtain ⟨fd, hf, g⟩ := Option.bind_eq_some_iff.1 h
    cases hx with
    | sc _ hsc => cases hsc
    | agg _ cs' hs hc =>
      obtain ⟨v', hr, hv⟩ := aPart_run P g hs hc w
      exact ⟨v', by simp [Instr.field, run_underlying hu, hf, asAgg, hr], hv⟩
  · cases h

def aIndexAddr (t : TypeId) (x i : Value) : Option Value :=
  match P.underlying t, x, i with
  | some (.array n e), .pointer (some ⟨r, o, none⟩), .int _ i => (szT P e).bind fun s => if 0 ≤ i ∧ i < n then some (.pointer (some ⟨r, o + i.toNat * s, none⟩)) else none
  | some (.slice e), .slice (some ⟨r, o, _⟩) len _, .int _ i => (szT P e).bind fun s => if 0 ≤ i ∧ i < len then some (.pointer (some ⟨r, o + i.toNat * s, none⟩)) else none
  | _, _, _ => none

theorem aIndexAddr_run {t : TypeId} {x i v : Value} (h : aIndexAddr P t x i = some v) {ρ : RMap} {x' i' : Value} (hx : VR ρ x x') (hi : VR ρ i i') (w : World) :
    ∃ v', (Instr.indexAt t x' i').run P w = .ok v' w ∧ VR ρ v v' := by
  unfold aIndexAddr at h
  split at h
  · rename_i n e r o k i hu
    obtain ⟨s, hs, g⟩ := Option.bind_eq_some_iff.1 h
    obtain rfl := hi.int_inv
    split at g
    · rename_i hb
      injection g with g
      subst g
      cases hx with
      | sc _ hsc => cases hsc
      | ptr _ _ ri hri =>
        refine ⟨.pointer (some ⟨ri.blk, ri.base + (o + i.toNat * s), none⟩), ?_, .ptr _ _ ri hri⟩
        simp [Instr.indexAt, run_underlying hu, asIntOf, Instr.sureAddr, hb, run_sizeOf hs, add_lit', Nat.add_assoc]
    · cases g
  · rename_i e r o sp len cap k i hu
    obtain ⟨s, hs, g⟩ := Option.bind_eq_some_iff.1 h
    obtain rfl := hi.int_inv
    split at g
    · rename_i hb
      injection g with g
      subst g
      cases hx with
      | sc _ hsc => cases hsc
      | sl _ _ _ _ ri hri =>
        refine ⟨.pointer (some ⟨ri.blk, ri.base + (o + i.toNat * s), none⟩), ?_, .ptr _ _ ri hri⟩
        simp [Instr.indexAt, run_underlying hu, asIntOf, hb, run_sizeOf hs, add_lit', Nat.add_assoc]
      | slx _ _ _ _ _ cap' ri hri =>
        refine ⟨.pointer (some ⟨ri.blk, ri.base + (o + i.toNat * s), none⟩), ?_, .ptr _ _ ri hri⟩
        simp [Instr.indexAt, run_underlying hu, asIntOf, hb, run_sizeOf hs, add_lit', Nat.add_assoc]
      | wild => omega
    · cases g
  · cases h

def aIndex (t : TypeId) (x i : Value) : Option Value :=
  match P.underlying t, x, i with
  | some (.array n e), .agg cs, .int _ i => (szT P e).bind fun s => if 0 ≤ i ∧ i < n then aPart P e cs (i.toNat * s) else none
  | some .string, .string s, .int _ i => if 0 ≤ i then (s.data[i.toNat]?).map fun b => .int .u8 b.toNat else none
  | _, _, _ => none

theorem aIndex_run {t : TypeId} {x i v : Value} (h : aIndex P t x i = some v) {ρ : RMap} {x' i' : Value} (hx : VR ρ x x') (hi : VR ρ i i') (w : World) :
    ∃ v', (Instr.index t x' i').run P w = .ok v' w ∧ VR ρ v v' := by
  unfold aIndex at h
  split at h
  · rename_i n e cs k i hu
    obtain ⟨s, hs, g⟩ := Option.bind_eq_some_iff.1 h
    obtain rfl := hi.int_inv
    split at g
    · rename_i hb
      cases hx with
      | sc _ hsc => cases hsc
      | agg _ cs' hcs hc =>
        obtain ⟨v', hr, hv⟩ := aPart_run P g hcs hc w
        exact ⟨v', by simp [Instr.index, run_underlying hu, asIntOf, hb, run_sizeOf hs, hr], hv⟩
    · cases g
  · rename_i s k i hu
    obtain rfl := hi.int_inv
    obtain rfl := hx.str_inv
    split at h
    · rename_i hb
      obtain ⟨c, hc, rfl⟩ := Option.map_eq_some_iff.1 h
      have hg : s[i.toNat]? = some c := by
        have hlt : i.toNat < s.data.size := (Array.getElem?_eq_some_iff.1 hc).1
        have hv := (Array.getElem?_eq_some_iff.1 hc).2
        have hlt' : i.toNat < s.size := hlt
        show (if h : i.toNat < s.size then some (s[i.toNat]'h) else none) = some c
        rw [dif_pos hlt']
        exact congrArg some hv
      exact ⟨.int .u8 c.toNat, by simp [Instr.index, run_underlying hu, asIntOf, hb, hg], .sc _ rfl⟩
    · cases h
  · cases h

end Go.Corb

/- The abstract machine, part 5: all operations that touch no memory; each is what the model does. Conditions: none. -/
set_option linter.unusedVariables false
set_option linter.unusedSimpArgs false
namespace Go.Corb
open Go Go.RowKit
variable (P : Program)

def isTuple : Value → Bool
  | .tuple _ => true
  | _ => false

theorem VR_cells {ρ : RMap} {v v' : Value} (h : VR ρ v v') (ht : isTuple v = false) : ER ρ v.cells v'.cells := by
  have one : ∀ {x y : Value}, VR ρ x y → ER ρ #[x] #[y] := fun {x y} h => ⟨rfl, fun t => by
    cases t with
    | zero => exact h
    | succ t => simp; exact .und⟩
  cases h with
  | tp v => cases ht
  | und => cases ht
  | tuple => cases ht
  | agg cs cs' hs h => exact ⟨hs, h⟩
  | sc v hv =>
    cases v <;> first | cases hv; done | exact one (.sc _ hv)
  | ptr r o i h => exact one (.ptr r o i h)
  | sl r o len cap i h => exact one (.sl r o len cap i h)
  | slx r o s len cap cap' i h h0 hc hn => exact one (.slx r o s len cap cap' i h h0 hc hn)
  | wild r a c => exact one (.wild r a c)
  | map r i h => exact one (.map r i h)
  | func f cs cs' hs h => exact one (.func f cs cs' hs h)

theorem fold_rel {ρ : RMap} (off : Nat) : ∀ (l l' : List Value) (k : Nat) (c c' : Array Value), l.length = l'.length → (∀ j, VR ρ (l.getD j undef) (l'.getD j undef)) → ER ρ c c' →
    ER ρ ((l.zipIdx k).foldl (fun cs (x, j) => cs.setIfInBounds (off + j) x) c) ((l'.zipIdx k).foldl (fun cs (x, j) => cs.setIfInBounds (off + j) x) c')
  | [], [], _, _, _, _, _, hc => hc
  | x :: l, y :: l', k, c, c', hl, h, hc => by
    simp only [List.zipIdx_cons, List.foldl_cons]
    exact fold_rel off l l' (k + 1) _ _ (by simpa using hl) (fun j => by simpa using h (j + 1)) (hc.set _ (by simpa using h 0))
  | [], _ :: _, _, _, _, hl, _, _ => by simp at hl
  | _ :: _, [], _, _, _, hl, _, _ => by simp at hl

theorem fill_rel {ρ : RMap} (place : Nat → Option (Nat × Nat)) : ∀ (ps ps' : List (Nat × Value)) (c c' : Array Value), ER ρ c c' → ps.length = ps'.length →
    (∀ (j : Nat) p p', ps[j]? = some p → ps'[j]? = some p' → p.1 = p'.1 ∧ isTuple p.2 = false ∧ VR ρ p.2 p'.2) → ∀ r, Instr.fill place c ps = some r → ∃ r', Instr.fill place c' ps' = some r' ∧ ER ρ r r'
  | [], [], c, c', hc, _, _, r, h => by
    simp only [Instr.fill, Option.some.injEq] at h
    subst h
    exact ⟨c', rfl, hc⟩
  | p :: ps, p' :: ps', c, c', hc, hl, hp, r, h => by
    obtain ⟨h1, h2, h3⟩ := hp 0 p p' rfl rfl
    obtain ⟨i, v⟩ := p
    obtain ⟨i', v'⟩ := p'
    simp only at h1 h2 h3
    subst h1
    have hcells := VR_cells h3 h2
    simp only [Instr.fill] at h ⊢
    cases hpl : place i with
    | none => simp [hpl] at h
    | some q =>
      obtain ⟨off, size⟩ := q
      simp only [hpl] at h ⊢
      by_cases hb : (v.cells.size ≠ size || decide (off + v.cells.size > c.size)) = true
      · rw [if_pos hb] at h; cases h
      · rw [if_neg hb] at h
        have hb' : ¬ (v'.cells.size ≠ size || decide (off + v'.cells.size > c'.size)) = true := by rw [← hcells.1, ← hc.1]; exact hb
        rw [if_neg hb']
        refine fill_rel place ps ps' _ _ ?_ (by simpa using hl) (fun j q q' hq hq' => hp (j + 1) q q' (by simpa using hq) (by simpa using hq')) r h
        rw [← Array.foldl_toList, ← Array.foldl_toList, Array.toList_zipIdx, Array.toList_zipIdx]
        exact fold_rel off v.cells.toList v'.cells.toList 0 c c' (by simpa using hcells.1) (fun j => by simpa [Array.getD_eq_getD_getElem?] using hcells.2 j) hc
  | [], _ :: _, _, _, _, hl, _, _, _ => by simp at hl
  | _ :: _, [], _, _, _, hl, _, _, _ => by simp at hl

def zeroOK (t : TypeId) : Bool := match (P.info? t).bind (·.zero) with
  | some z => constOK z
  | none => false

theorem ER.const {ρ : RMap} {z : Value} (h : constOK z = true) : ER ρ z.cells z.cells := by
  have h1 : isTuple z = false := by cases z <;> first | rfl | cases h
  exact VR_cells (.const h) h1

def aBuild (t : TypeId) (parts : List (Nat × Value)) : Option Value :=
  if zeroOK P t && parts.all (fun p => !isTuple p.2) then (P.built t parts).map .agg else none

theorem built_rel {ρ : RMap} {t : TypeId} {ps ps' : List (Nat × Value)} (hz : zeroOK P t = true) (hl : ps.length = ps'.length)
    (hp : ∀ (j : Nat) p p', ps[j]? = some p → ps'[j]? = some p' → p.1 = p'.1 ∧ isTuple p.2 = false ∧ VR ρ p.2 p'.2) {r : Array Value} (h : P.built t ps = some r) :
    ∃ r', P.built t ps' = some r' ∧ ER ρ r r' := by
  unfold Program.built at h ⊢
  unfold zeroOK at hz
  cases hi : P.info? t with
  | none => simp [hi] at h
  | some it =>
    cases hzz : it.zero with
    | none => simp [hi, hzz] at hz
    | some z =>
      simp only [hi, Option.bind_some, hzz] at hz
      cases hu : P.underlying t with
      | none => simp [hi, hu] at h
      | some d =>
        cases d <;> try (simp [hi, hu] at h; done)
        case array n e =>
          cases he : P.info? e with
          | none => simp [hi, hu, hzz, he] at h
          | some ie =>
            simp only [hi, hu, hzz, he] at h ⊢
            exact fill_rel _ ps ps' _ _ (ER.const hz) hl hp r h
        case struct fields =>
          cases hq : fields.toList.mapM (fun f => (P.info? f.type).map fun i => (f.offset, i.size)) with
          | none => simp [hi, hu, hzz, hq] at h
          | some places =>
            simp only [hi, hu, hzz, hq] at h ⊢
            exact fill_rel _ ps ps' _ _ (ER.const hz) hl hp r h

theorem aBuild_run {ρ : RMap} {a : Env} {b : Act} (hE : ER ρ a b.tmps) {t : TypeId} {parts : Array (Nat × Operand)} {v : Value}
    (h : aBuild P t (parts.toList.map fun p => (p.1, aev a p.2)) = some v) (w : World) :
    ∃ v', (Instr.build t (parts.map fun (i, x) => (i, b.eval x))).run P w = .ok v' w ∧ VR ρ v v' := by
  unfold aBuild at h
  split at h
  · rename_i hc
    simp only [Bool.and_eq_true, List.all_eq_true] at hc
    obtain ⟨r, hr, rfl⟩ := Option.map_eq_some_iff.1 h
    have hp : ∀ (j : Nat) p p', (parts.toList.map fun p => (p.1, aev a p.2))[j]? = some p → (parts.map fun (i, x) => (i, b.eval x)).toList[j]? = some p' → p.1 = p'.1 ∧ isTuple p.2 = false ∧ VR ρ p.2 p'.2 := by
      intro j p p' h1 h2
      have hm := hc.2 p (List.mem_of_getElem? h1)
      simp only [List.getElem?_map, Array.toList_map, Array.getElem?_toList] at h1 h2
      cases hq : parts[j]? with
      | none => simp [hq] at h1
      | some q =>
        simp only [hq, Option.map_some, Option.some.injEq] at h1 h2
        subst h1
        subst h2
        exact ⟨rfl, by simpa using hm, hE.ev q.2⟩
    obtain ⟨r', hr', he⟩ := built_rel P hc.1 (by simp) hp hr
    exact ⟨.agg r', run_build w t _ r' hr', .agg _ _ he.1 he.2⟩
  · cases h

def aMin2 (x y : Value) : Option Value :=
  match x, y with
  | .int k x, .int _ y => some (.int k (if y < x then y else x))
  | _, _ => none
def aMax2 (x y : Value) : Option Value :=
  match x, y with
  | .int k x, .int _ y => some (.int k (if y > x then y else x))
  | _, _ => none
def aFold (f : Value → Value → Option Value) : List Value → Option Value
  | [] => none
  | x :: rest => rest.foldlM f x

theorem aMin_run {ρ : RMap} : ∀ (l l' : List Value) (x : Value) (v : Value), l.length = l'.length → (∀ j, VR ρ (l.getD j undef) (l'.getD j undef)) → scalarOK x = true → l.foldlM aMin2 x = some v →
    ∀ w, (l'.foldlM Builtin.min2 x).run P w = .ok v w ∧ scalarOK v = true
  | [], [], x, v, _, _, hx, h, w => by simp at h; subst h; exact ⟨rfl, hx⟩
  | y :: l, y' :: l', x, v, hl, hr, hx, h, w => by
    have h0 : VR ρ y y' := by simpa using hr 0
    simp only [List.foldlM_cons, Option.bind_eq_bind] at h
    obtain ⟨u, hu, h⟩ := Option.bind_eq_some_iff.1 h
    unfold aMin2 at hu
    split at hu
    · obtain rfl := h0.int_inv
      injection hu with hu
      subst hu
      have ih := aMin_run l l' _ v (by simpa using hl) (fun j => by simpa using hr (j + 1)) rfl h w
      simpa [List.foldlM_cons, Builtin.min2] using ih
    · cases hu
  | [], _ :: _, _, _, hl, _, _, _, _ => by simp at hl
  | _ :: _, [], _, _, hl, _, _, _, _ => by simp at hl

theorem aMax_run {ρ : RMap} : ∀ (l l' : List Value) (x : Value) (v : Value), l.length = l'.length → (∀ j, VR ρ (l.getD j undef) (l'.getD j undef)) → scalarOK x = true → l.foldlM aMax2 x = some v →
    ∀ w, (l'.foldlM Builtin.max2 x).run P w = .ok v w ∧ scalarOK v = true
  | [], [], x, v, _, _, hx, h, w => by simp at h; subst h; exact ⟨rfl, hx⟩
  | y :: l, y' :: l', x, v, hl, hr, hx, h, w => by
    have h0 : VR ρ y y' := by simpa using hr 0
    simp only [List.foldlM_cons, Option.bind_eq_bind] at h
    obtain ⟨u, hu, h⟩ := Option.bind_eq_some_iff.1 h
    unfold aMax2 at hu
    split at hu
    · obtain rfl := h0.int_inv
      injection hu with hu
      subst hu
      have ih := aMax_run l l' _ v (by simpa using hl) (fun j => by simpa using hr (j + 1)) rfl h w
      simpa [List.foldlM_cons, Builtin.max2] using ih
    · cases hu
  | [], _ :: _, _, _, hl, _, _, _, _ => by simp at hl
  | _ :: _, [], _, _, hl, _, _, _, _ => by simp at hl

def aLen (t : TypeId) (x : Value) : Option Value :=
  match P.underlying t, x with
  | some .string, .string s => some (.int .i64 s.size)
  | some (.slice _), .slice _ n _ => some (.int .i64 n)
  | _, _ => none

def aCap (t : TypeId) (x : Value) : Option Value :=
  match P.underlying t, x with
  | some (.slice _), .slice none 0 0 => some (.int .i64 (0 : Nat))
  | some (.slice _), .slice (some ⟨_, _, none⟩) _ c => some (.int .i64 c)
  | _, _ => none

theorem aLen_run {t ty : TypeId} {x v : Value} (h : aLen P t x = some v) {ρ : RMap} {x' : Value} (hx : VR ρ x x') (ts : Array TypeId) (ht : ts[0]? = some t) (xs : Array Value) (h0 : xs[0]? = some x') (w : World) :
    (Builtin.len_ ts ty xs).run P w = .ok v w ∧ scalarOK v = true := by
  unfold aLen at h
  split at h
  · rename_i s hu
    obtain rfl := hx.str_inv
    injection h with h; subst h
    exact ⟨by simp [Builtin.len_, ht, h0, run_underlying hu, goInt], rfl⟩
  · rename_i a n c hu
    injection h with h; subst h
    refine ⟨?_, rfl⟩
    cases hx <;> simp [Builtin.len_, ht, h0, run_underlying hu, goInt]
  · cases h

theorem aCap_run {t ty : TypeId} {x v : Value} (h : aCap P t x = some v) {ρ : RMap} {x' : Value} (hx : VR ρ x x') (ts : Array TypeId) (ht : ts[0]? = some t) (xs : Array Value) (h0 : xs[0]? = some x') (w : World) :
    (Builtin.cap_ ts ty xs).run P w = .ok v w ∧ scalarOK v = true := by
  unfold aCap at h
  split at h
  · rename_i hu
    obtain rfl := hx.of_scalar rfl
    injection h with h; subst h
    exact ⟨by simp [Builtin.cap_, ht, h0, run_underlying hu, goInt], rfl⟩
  · rename_i r o n c hu
    injection h with h; subst h
    refine ⟨?_, rfl⟩
    cases hx with
    | sc _ hs => cases hs
    | sl => simp [Builtin.cap_, ht, h0, run_underlying hu, goInt]
  · cases h

end Go.Corb

/- The abstract machine, part 6: the memoryless operations gathered. Conditions: none. -/
set_option linter.unusedVariables false
set_option linter.unusedSimpArgs false
namespace Go.Corb
open Go Go.RowKit
variable (P : Program)

def pureOp (ev : Operand → Value) : Op → Option Value
  | .move x => some (ev x)
  | .assign x => some (ev x)
  | .pick c x y => match ev c with
    | .bool t => some (if t then ev x else ev y)
    | _ => none
  | .nilCheck x => match ev x with
    | .pointer (some p) => some (.pointer (some p))
    | .func (.func f) fi cs => some (.func (.func f) fi cs)
    | _ => none
  | .binOp op t x y _ => aBin P op t (ev x) (ev y)
  | .unOp op _ x => aUn op (ev x)
  | .convert src dst x => aConv P src dst (ev x)
  | .build t parts => aBuild P t (parts.toList.map fun p => (p.1, ev p.2))
  | .makeFunc fn first captured => match fn with
    | .func f => if first.isEmpty then some (.func (.func f) #[] (captured.map ev)) else none
    | _ => none
  | .slice t x lo hi mx => aSlice P t (ev x) (lo.map ev) (hi.map ev) (mx.map ev)
  | .fieldAddr s x f => aFieldAddr P s (ev x) f
  | .field t x f => aField P t (ev x) f
  | .indexAddr t x i => aIndexAddr P t (ev x) (ev i)
  | .index t x i => aIndex P t (ev x) (ev i)
  | .extract x i => match ev x with
    | .tuple vs => if 2 ≤ vs.size then vs[i]? else none
    | _ => none
  | .call c => match c.callee with
    | .builtin .len => match c.argTypes[0]?, c.args[0]? with
      | some t, some x => aLen P t (ev x)
      | _, _ => none
    | .builtin .cap => match c.argTypes[0]?, c.args[0]? with
      | some t, some x => aCap P t (ev x)
      | _, _ => none
    | .builtin .min => match c.args.toList.map ev with
      | .int k n :: rest => rest.foldlM aMin2 (.int k n)
      | _ => none
    | .builtin .max => match c.args.toList.map ev with
      | .int k n :: rest => rest.foldlM aMax2 (.int k n)
      | _ => none
    | _ => none
  | _ => none

theorem list_rel {ρ : RMap} {a : Env} {b : Act} (hE : ER ρ a b.tmps) (l : List Operand) (j : Nat) : VR ρ ((l.map (aev a)).getD j undef) ((l.map b.eval).getD j undef) := by
  simp only [List.getD_eq_getElem?_getD, List.getElem?_map]
  cases h : l[j]? with
  | none => simp; exact .und
  | some x => simp; exact hE.ev x

theorem pureOp_run {ρ : RMap} {a : Env} {b : Act} (hE : ER ρ a b.tmps) {o : Oper} {v : Value} (h : pureOp P (aev a) o.op = some v) (w : World) :
    ∃ v', (execOp b.eval o).run P w = .ok (.value v') w ∧ VR ρ v v' := by
  obtain ⟨dst, op, type, pos, after, guard⟩ := o
  simp only at h
  unfold pureOp at h
  split at h
  · rename_i x; injection h with h; subst h; exact ⟨_, rfl, hE.ev x⟩
  · rename_i x; injection h with h; subst h; exact ⟨_, rfl, hE.ev x⟩
  · rename_i c x y
    split at h
    · rename_i t hc
      injection h with h; subst h
      have hb := hE.ev c
      rw [hc] at hb
      refine ⟨if t then b.eval x else b.eval y, by simp [execOp, hb.bool_inv, asBool], ?_⟩
      cases t
      · exact hE.ev y
      · exact hE.ev x
    · cases h
  · rename_i x
    have hx := hE.ev x
    split at h
    · rename_i p hp
      injection h with h; subst h
      rw [hp] at hx
      refine ⟨b.eval x, ?_, hx⟩
      generalize hy : b.eval x = y at hx
      cases hx with
      | sc _ hs => cases hs
      | ptr r o i hi => simp [execOp, hy]
    · rename_i f fi cs hp
      injection h with h; subst h
      rw [hp] at hx
      refine ⟨b.eval x, ?_, hx⟩
      generalize hy : b.eval x = y at hx
      cases hx with
      | sc _ hs => cases hs
      | func => simp [execOp, hy]
    · cases h
  · rename_i op t x y yt
    obtain ⟨hr, hs⟩ := aBin_run P h (hE.ev x) (hE.ev y) x y w
    refine ⟨v, ?_, .sc _ hs⟩
    show ((do pure (Next.value (← (do eqGuard op t x y (b.eval x) (b.eval y); binOp op t (b.eval x) (b.eval y)) : Value))) : Sem Next).run P w = _
    rw [Sem.run_bind, hr]; rfl
  · rename_i op t x
    obtain ⟨hr, hs⟩ := aUn_run P h (hE.ev x) w
    exact ⟨v, by simp [execOp, hr], .sc _ hs⟩
  · rename_i src dst x
    obtain ⟨hr, hs⟩ := aConv_run P h (hE.ev x) w
    exact ⟨v, by simp [execOp, hr], .sc _ hs⟩
  · rename_i t parts
    obtain ⟨v', hr, hv⟩ := aBuild_run P hE h w
    exact ⟨v', by simp only [execOp, Sem.run_bind, hr]; rfl, hv⟩
  · rename_i fn first captured
    split at h
    · rename_i f
      split at h
      · rename_i he
        injection h with h; subst h
        have hf : first = #[] := by simpa using he
        subst hf
        refine ⟨.func (.func f) #[] (captured.map b.eval), by simp [execOp, Instr.makeFunc], .func f _ _ (by simp) fun j => ?_⟩
        simp only [Array.getD_eq_getD_getElem?, Array.getElem?_map]
        cases hq : captured[j]? with
        | none => simp; exact .und
        | some x => simp; exact hE.ev x
      · cases h
    · cases h
  · rename_i t x lo hi mx
    obtain ⟨v', hr, hv⟩ := aSlice_run P hE h (hE.ev x) w
    exact ⟨v', by simp only [execOp, Sem.run_bind, hr]; rfl, hv⟩
  · rename_i s x f
    obtain ⟨v', hr, hv⟩ := aFieldAddr_run P h (hE.ev x) w
    exact ⟨v', by simp only [execOp, Sem.run_bind, hr]; rfl, hv⟩
  · rename_i t x f
    obtain ⟨v', hr, hv⟩ := aField_run P h (hE.ev x) w
    exact ⟨v', by simp only [execOp, Sem.run_bind, hr]; rfl, hv⟩
  · rename_i t x i
    obtain ⟨v', hr, hv⟩ := aIndexAddr_run P h (hE.ev x) (hE.ev i) w
    exact ⟨v', by simp only [execOp, Sem.run_bind, hr]; rfl, hv⟩
  · rename_i t x i
    obtain ⟨v', hr, hv⟩ := aIndex_run P h (hE.ev x) (hE.ev i) w
    exact ⟨v', by simp only [execOp, Sem.run_bind, hr]; rfl, hv⟩
  · rename_i x i
    split at h
    · rename_i vs hp
      split at h
      · rename_i h2
        have hx := hE.ev x
        rw [hp] at hx
        have : ∃ cs', b.eval x = .tuple cs' ∧ vs.size = cs'.size ∧ ∀ j, VR ρ (vs.getD j undef) (cs'.getD j undef) := by
          generalize b.eval x = y at hx ⊢
          cases hx with
          | sc _ hs => cases hs
          | tp => simp at h2
          | und => simp at h2
          | tuple _ cs' h2 hs hc => exact ⟨cs', rfl, hs, hc⟩
        obtain ⟨cs', e, hs, hc⟩ := this
        obtain ⟨v', hv', hr⟩ := VR_getD hs hc h
        exact ⟨v', by simp [execOp, Instr.extract, e, hv'], hr⟩
      · cases h
    · cases h
  · rename_i c
    obtain ⟨callee, args, ats⟩ := c
    simp only at h
    split at h
    · split at h
      · rename_i t x ht hx
        obtain ⟨hr, hs⟩ := aLen_run P (ty := type) h (hE.ev x) ats ht (args.map b.eval) (by simp [hx]) w
        exact ⟨v, by simp [execOp, resolve, invoke, builtin, hr], .sc _ hs⟩
      · cases h
    · split at h
      · rename_i t x ht hx
        obtain ⟨hr, hs⟩ := aCap_run P (ty := type) h (hE.ev x) ats ht (args.map b.eval) (by simp [hx]) w
        exact ⟨v, by simp [execOp, resolve, invoke, builtin, hr], .sc _ hs⟩
      · cases h
    · split at h
      · rename_i k n rest hl
        cases ha : args.toList with
        | nil => simp [ha] at hl
        | cons x xs =>
          simp only [ha, List.map_cons, List.cons.injEq] at hl
          have h0 := hE.ev x
          rw [hl.1] at h0
          obtain ⟨hr, hs⟩ := aMin_run P rest (xs.map b.eval) (.int k n) v (by simp [← hl.2]) (fun j => by rw [← hl.2]; exact list_rel hE xs j) rfl h w
          exact ⟨v, by simp [execOp, resolve, invoke, builtin, Builtin.min_, ha, h0.int_inv, hr], .sc _ hs⟩
      · cases h
    · split at h
      · rename_i k n rest hl
        cases ha : args.toList with
        | nil => simp [ha] at hl
        | cons x xs =>
          simp only [ha, List.map_cons, List.cons.injEq] at hl
          have h0 := hE.ev x
          rw [hl.1] at h0
          obtain ⟨hr, hs⟩ := aMax_run P rest (xs.map b.eval) (.int k n) v (by simp [← hl.2]) (fun j => by rw [← hl.2]; exact list_rel hE xs j) rfl h w
          exact ⟨v, by simp [execOp, resolve, invoke, builtin, Builtin.max_, ha, h0.int_inv, hr], .sc _ hs⟩
      · cases h
    · cases h
  · cases h

end Go.Corb

/- The abstract machine, part 7: how the abstract memory and the world go on together. Conditions: none. -/
set_option linter.unusedVariables false
set_option linter.unusedSimpArgs false
namespace Go.Corb
open Go Go.RowKit

/-- The cells from o on written over. -/
def wr (c : List Value) (o : Nat) (vs : List Value) : List Value := c.take o ++ vs ++ c.drop (o + vs.length)

theorem wr_length {c : List Value} {o : Nat} {vs : List Value} (h : o + vs.length ≤ c.length) : (wr c o vs).length = c.length := by
  simp [wr]; omega

theorem wr_getD {c : List Value} {o : Nat} {vs : List Value} (h : o + vs.length ≤ c.length) (j : Nat) (d : Value) :
    (wr c o vs).getD j d = if o ≤ j ∧ j < o + vs.length then vs.getD (j - o) d else c.getD j d := by
  unfold wr
  simp only [List.getD_eq_getElem?_getD, List.getElem?_append, List.length_append, List.length_take, List.getElem?_take, List.getElem?_drop]
  have e : min o c.length = o := by omega
  rw [e]
  by_cases h1 : j < o
  · rw [if_pos (by omega), if_pos h1, if_pos h1, if_neg (by omega)]
  · by_cases h2 : j < o + vs.length
    · rw [if_pos h2, if_neg h1, if_pos ⟨by omega, h2⟩]
    · rw [if_neg h2, if_neg (by omega)]
      congr 2
      omega

theorem setCells_heap (b : Nat) (e : TypeId) (fr : Nat × Nat) : ∀ (vs : List Value) (o : Nat) (w : World) (cs : Array Value), w.heap[b]? = some (.cells cs e fr) → o + vs.length ≤ cs.size →
    ∃ cs', (w.setCells b o vs).heap[b]? = some (.cells cs' e fr) ∧ cs'.size = cs.size ∧ ∀ j d, cs'.getD j d = if o ≤ j ∧ j < o + vs.length then vs.getD (j - o) d else cs.getD j d
  | [], o, w, cs, hb, h => ⟨cs, hb, rfl, fun j d => by rw [if_neg (by simp)]⟩
  | v :: vs, o, w, cs, hb, h => by
    have h1 : (w.setCell ⟨b, o, none⟩ v).heap[b]? = some (.cells (cs.setIfInBounds o v) e fr) := by
      rw [setCell_eq_setRow w b o cs e fr v hb]
      exact setRow_heap w b cs _ e fr hb
    obtain ⟨cs', g1, g2, g3⟩ := setCells_heap b e fr vs (o + 1) _ _ h1 (by simp at h ⊢; omega)
    refine ⟨cs', g1, by rw [g2]; simp, fun j d => ?_⟩
    rw [g3, getD_setIfInBounds]
    simp only [List.length_cons] at h ⊢
    by_cases e1 : o + 1 ≤ j ∧ j < o + 1 + vs.length
    · rw [if_pos e1, if_pos (by omega)]
      obtain ⟨k, rfl⟩ : ∃ k, j = o + 1 + k := ⟨j - (o + 1), by omega⟩
      rw [show o + 1 + k - o = k + 1 by omega, show o + 1 + k - (o + 1) = k by omega]
      simp
    · rw [if_neg e1]
      by_cases e2 : o = j
      · subst e2
        rw [if_pos ⟨rfl, by omega⟩, if_pos (by omega)]
        simp
      · rw [if_neg (by omega), if_neg (by omega)]

theorem setCells_other (b : Nat) : ∀ (vs : List Value) (o : Nat) (w : World) (k : Nat), k ≠ b → (w.setCells b o vs).heap[k]? = w.heap[k]?
  | [], _, _, _, _ => rfl
  | v :: vs, o, w, k, hk => by rw [World.setCells, setCells_other b vs (o + 1) _ k hk, Below.heap_setCell _ _ _ _ hk]

theorem setCells_fields (b : Nat) : ∀ (vs : List Value) (o : Nat) (w : World), (w.setCells b o vs).os = w.os ∧ (w.setCells b o vs).tape = w.tape ∧ (w.setCells b o vs).output = w.output ∧ (w.setCells b o vs).heap.size = w.heap.size
  | [], _, _ => ⟨rfl, rfl, rfl, rfl⟩
  | v :: vs, o, w => by
    obtain ⟨h1, h2, h3, h4⟩ := setCells_fields b vs (o + 1) (w.setCell ⟨b, o, none⟩ v)
    exact ⟨h1, h2, h3, by rw [World.setCells, h4]; simp [World.setCell]⟩

theorem below_setCells {B b : Nat} {w0 w : World} (h : Below B w0 w) (hb : B ≤ b) (vs : List Value) (o : Nat) : Below B w0 (w.setCells b o vs) := by
  obtain ⟨h1, h2, h3, h4⟩ := setCells_fields b vs o w
  exact h.trans ⟨h1, h2, h3, by omega, fun k hk => setCells_other b vs o w k (by omega)⟩

def RMap.set (ρ : RMap) (N : Nat) (i : RI) : RMap := fun q => if q = N then some i else ρ q
theorem RMap.set_ext {ρ : RMap} {N : Nat} (h : ρ N = none) (i : RI) : ρ.Ext (ρ.set N i) := fun r k e => by
  unfold RMap.set
  by_cases hr : r = N
  · subst hr; rw [h] at e; cases e
  · rw [if_neg hr]; exact e

theorem OR.mono {B : Nat} {ρ ρ' : RMap} (e : ρ.Ext ρ') {o : AObj} {i : RI} {w w' : World} (h : OR B ρ o i w) (hw : w'.heap[i.blk]? = w.heap[i.blk]?) : OR B ρ' o i w' := by
  cases o with
  | cells c ro =>
    obtain ⟨cs, t, fr, h1, h2, h3, h4, h5⟩ := h
    exact ⟨cs, t, fr, hw.trans h1, h2, h3, fun j hj => (h4 j hj).mono e, h5⟩
  | other ob => exact ⟨h.1, hw.trans h.2.1, h.2.2⟩

section
variable {B : Nat} {w0 w : World} {ρ : RMap} {σ : AS}

theorem Rel.drew (h : Rel B w0 ρ σ w) : Rel B w0 ρ σ w.drew :=
  ⟨h.below.drew, h.hB, fun r o hr => let ⟨i, h1, h2⟩ := h.objs r o hr; ⟨i, h1, h2.mono (.refl _) rfl⟩, h.sep, h.lt⟩

theorem Rel.drewN (h : Rel B w0 ρ σ w) : ∀ n, Rel B w0 ρ σ { w with drawn := n } := fun n =>
  ⟨⟨h.below.os, h.below.tape, h.below.output, h.below.size, h.below.block⟩, h.hB, fun r o hr => let ⟨i, h1, h2⟩ := h.objs r o hr; ⟨i, h1, h2.mono (.refl _) rfl⟩, h.sep, h.lt⟩

theorem Rel.heap_none (h : Rel B w0 ρ σ w) {N : Nat} (hN : ρ N = none) : σ.heap N = none := by
  cases e : σ.heap N with
  | none => rfl
  | some o => obtain ⟨i, hi, _⟩ := h.objs N o e; rw [hN] at hi; cases hi

/-- A new object. -/
theorem Rel.alloc (h : Rel B w0 ρ σ w) {N : Nat} (hN : ρ N = none) {o : AObj} {i : RI} {ob : Obj} (hi : i.blk = w.heap.size)
    (ho : OR B (ρ.set N i) o i (w.alloc ob)) : Rel B w0 (ρ.set N i) (σ.put N o) (w.alloc ob) := by
  have hext := RMap.set_ext hN i
  refine ⟨h.below.alloc h.hB _, by have := h.hB; simp; omega, ?_, ?_, ?_⟩
  · intro r u hr
    simp only [AS.put] at hr
    by_cases e : r = N
    · subst e
      rw [if_pos rfl] at hr
      injection hr with hr
      subst hr
      exact ⟨i, by simp [RMap.set], ho⟩
    · rw [if_neg e] at hr
      obtain ⟨k, h1, h2⟩ := h.objs r u hr
      exact ⟨k, hext _ _ h1, h2.mono hext (Below.heap_alloc _ _ _ (h.lt r k h1))⟩
  · intro r q u v k l hr hq kr lq hro hne
    simp only [AS.put] at hr hq
    simp only [RMap.set] at kr lq
    by_cases e : r = N
    · subst e
      rw [if_pos rfl] at kr
      rw [if_neg (Ne.symm hne)] at lq
      injection kr with kr
      subst kr
      have := h.lt q l lq
      omega
    · rw [if_neg e] at hr kr
      by_cases e2 : q = N
      · subst e2
        rw [if_pos rfl] at lq
        injection lq with lq
        subst lq
        have := h.lt r k kr
        omega
      · rw [if_neg e2] at hq lq
        exact h.sep r q u v k l hr hq kr lq hro hne
  · intro r k hr
    simp only [RMap.set] at hr
    by_cases e : r = N
    · rw [if_pos e] at hr; injection hr with hr; subst hr; rw [hi]; simp
    · rw [if_neg e] at hr; have := h.lt r k hr; simp; omega

/-- An object is forgotten. -/
theorem Rel.del (h : Rel B w0 ρ σ w) (r : Nat) : Rel B w0 ρ (σ.del r) w := by
  have sub : ∀ q o, (σ.del r).heap q = some o → σ.heap q = some o := by
    intro q o hq
    simp only [AS.del] at hq
    split at hq
    · cases hq
    · exact hq
  exact ⟨h.below, h.hB, fun q o hq => h.objs q o (sub q o hq), fun a b u v k l ha hb => h.sep a b u v k l (sub a u ha) (sub b v hb), h.lt⟩

/-- Cells are written. -/
theorem Rel.write (h : Rel B w0 ρ σ w) {r : Nat} {c : List Value} (hr : σ.heap r = some (.cells c false)) {i : RI} (hi : ρ r = some i) {o : Nat} {vs vs' : List Value}
    (hl : vs.length = vs'.length) (hfit : o + vs.length ≤ c.length) (hv : ∀ j, VR ρ (vs.getD j undef) (vs'.getD j undef)) :
    Rel B w0 ρ (σ.put r (.cells (wr c o vs) false)) (w.setCells i.blk (i.base + o) vs') := by
  obtain ⟨i', hi', hO⟩ := h.objs r _ hr
  obtain rfl : i = i' := by rw [hi] at hi'; injection hi'
  obtain ⟨cs, t, fr, h1, h2, h3, h4, h5⟩ := hO
  obtain ⟨hB, hfr⟩ := h5 rfl
  obtain ⟨cs', g1, g2, g3⟩ := setCells_heap i.blk t fr vs' (i.base + o) w cs h1 (by omega)
  obtain ⟨_, _, _, hsz⟩ := setCells_fields i.blk vs' (i.base + o) w
  refine ⟨below_setCells h.below hB vs' _, by rw [hsz]; exact h.hB, ?_, ?_, fun r k hk => by rw [hsz]; exact h.lt r k hk⟩
  · intro q u hq
    simp only [AS.put] at hq
    by_cases e : q = r
    · subst e
      rw [if_pos rfl] at hq
      injection hq with hq
      subst hq
      refine ⟨i, hi, cs', t, fr, g1, by omega, by rw [wr_length hfit]; exact h3, fun j hj => ?_, fun _ => ⟨hB, hfr⟩⟩
      rw [wr_length hfit] at hj
      rw [wr_getD hfit, g3]
      by_cases e1 : o ≤ j ∧ j < o + vs.length
      · rw [if_pos e1, if_pos (by omega), show i.base + j - (i.base + o) = j - o by omega]
        exact hv _
      · rw [if_neg e1, if_neg (by omega)]
        exact h4 j hj
    · rw [if_neg e] at hq
      obtain ⟨k, hk, hO⟩ := h.objs q u hq
      refine ⟨k, hk, hO.mono (.refl _) (setCells_other _ _ _ _ _ ?_)⟩
      exact fun e' => h.sep r q _ u i k hr hq hi hk rfl (Ne.symm e) e'.symm
  · intro a b u v k l ha hb ka lb hro hne
    simp only [AS.put] at ha hb
    have ha' : ∃ u', σ.heap a = some u' ∧ u'.ro = false := by
      by_cases e : a = r
      · subst e; exact ⟨_, hr, rfl⟩
      · rw [if_neg e] at ha; exact ⟨u, ha, hro⟩
    have hb' : ∃ v', σ.heap b = some v' := by
      by_cases e : b = r
      · subst e; exact ⟨_, hr⟩
      · rw [if_neg e] at hb; exact ⟨v, hb⟩
    obtain ⟨u', hu', hu''⟩ := ha'
    obtain ⟨v', hv'⟩ := hb'
    exact h.sep a b u' v' k l hu' hv' ka lb hu'' hne

/-- The cells of an object, as they lie in the world. -/
theorem Rel.cell (h : Rel B w0 ρ σ w) {r : Nat} {c : List Value} {ro : Bool} (hr : σ.heap r = some (.cells c ro)) {i : RI} (hi : ρ r = some i) {j : Nat} (hj : j < c.length) :
    ∃ v', w.cell? ⟨i.blk, i.base + j, none⟩ = some v' ∧ VR ρ (c.getD j undef) v' ∧ (ro = false → w.frozen? ⟨i.blk, i.base + j, none⟩ = false) := by
  obtain ⟨i', hi', hO⟩ := h.objs r _ hr
  obtain rfl : i = i' := by rw [hi] at hi'; injection hi'
  obtain ⟨cs, t, fr, h1, h2, h3, h4, h5⟩ := hO
  have hlt : i.base + j < cs.size := by omega
  refine ⟨cs[i.base + j], by simp [World.cell?, h1, hlt], ?_, fun hro => ?_⟩
  · have := h4 j hj
    simpa [Array.getD_eq_getD_getElem?, hlt] using this
  · obtain ⟨_, hf⟩ := h5 hro
    have := hf (i.base + j) (by omega)
    simp only [World.frozen?, h1]
    simpa using this

theorem Rel.cells (h : Rel B w0 ρ σ w) {r : Nat} {c : List Value} {ro : Bool} (hr : σ.heap r = some (.cells c ro)) {i : RI} (hi : ρ r = some i) {o n : Nat} (hn : o + n ≤ c.length) :
    ∃ vs : List Value, vs.length = n ∧ (∀ j v, vs[j]? = some v → w.cell? ((⟨i.blk, i.base + o, none⟩ : Addr).add j) = some v) ∧ ∀ j, VR ρ (((c.drop o).take n).getD j undef) (vs.getD j undef) := by
  refine ⟨(List.range n).map fun j => (w.cell? ⟨i.blk, i.base + (o + j), none⟩).getD undef, by simp, ?_, ?_⟩
  · intro j v hv
    rw [List.getElem?_map] at hv
    by_cases hj : j < n
    · rw [List.getElem?_range hj] at hv
      obtain ⟨v', h1, _⟩ := h.cell hr hi (show o + j < c.length by omega)
      simp only [Option.map_some, h1, Option.getD_some, Option.some.injEq] at hv
      subst hv
      rw [add_lit', Nat.add_assoc]
      exact h1
    · rw [List.getElem?_eq_none (by simpa using hj)] at hv
      cases hv
  · intro j
    simp only [List.getD_eq_getElem?_getD, List.getElem?_map, List.getElem?_take, List.getElem?_drop]
    by_cases hj : j < n
    · obtain ⟨v', h1, h2, _⟩ := h.cell hr hi (show o + j < c.length by omega)
      rw [if_pos hj, List.getElem?_range hj]
      simpa [h1, List.getD_eq_getElem?_getD] using h2
    · rw [if_neg hj, List.getElem?_eq_none (by simpa using hj)]
      exact .und
end

end Go.Corb

/- The abstract machine, part 8: operations that read memory, that make it. Conditions: none. -/
set_option linter.unusedVariables false
set_option linter.unusedSimpArgs false
namespace Go.Corb
open Go Go.RowKit
variable (P : Program)

/-! ### reads -/
def lPart (t : TypeId) (c : List Value) (o : Nat) : Option Value :=
  (aggT P t).bind fun g => if g then (szT P t).bind fun n => if o + n ≤ c.length then some (.agg ((c.drop o).take n).toArray) else none else c[o]?

def toByte : Value → Option UInt8
  | .int .u8 n => some (UInt8.ofNat n.toNat)
  | _ => none

def bytesOf : List Value → Option (List UInt8)
  | [] => some []
  | v :: l => (toByte v).bind fun b => (bytesOf l).map (b :: ·)

def readOp (ev : Operand → Value) (σ : AS) : Op → Option (Value × List Nat)
  | .load t x => match ev x with
    | .pointer (some ⟨r, o, none⟩) => match σ.heap r with
      | some (.cells c _) => (lPart P t c o).map (·, [r])
      | _ => none
    | _ => none
  | .convert src dst x => match P.underlying src, P.underlying dst with
    | some (.slice e), some .string => match P.underlying e with
      | some (.int .u8) => match ev x with
        | .slice none 0 0 => some (.string ⟨#[]⟩, [])
        | .slice (some ⟨r, o, _⟩) len _ =>
          if len = 0 then some (.string ⟨#[]⟩, []) else
          match σ.heap r with
          | some (.cells c _) => if o + len ≤ c.length then (bytesOf ((c.drop o).take len)).map fun l => (.string ⟨l.toArray⟩, [r]) else none
          | _ => none
        | _ => none
      | _ => none
    | _, _ => none
  | _ => none

theorem ER_of_lists {ρ : RMap} {l l' : List Value} (hl : l.length = l'.length) (h : ∀ j, VR ρ (l.getD j undef) (l'.getD j undef)) : ER ρ l.toArray l'.toArray :=
  ⟨by simpa using hl, fun t => by simpa [Array.getD_eq_getD_getElem?, List.getD_eq_getElem?_getD] using h t⟩

section
variable {P} {B : Nat} {w0 w : World} {ρ : RMap} {σ : AS}

theorem lPart_run (hR : Rel B w0 ρ σ w) {r o : Nat} {c : List Value} {ro : Bool} (hr : σ.heap r = some (.cells c ro)) {i : RI} (hi : ρ r = some i) {t : TypeId} {v : Value} (h : lPart P t c o = some v) :
    ∃ v', (loadVar t ⟨i.blk, i.base + o, none⟩).run P w = .ok v' w ∧ VR ρ v v' := by
  unfold lPart at h
  obtain ⟨g, hg, h2⟩ := Option.bind_eq_some_iff.1 h
  cases g with
  | true =>
    simp only [if_true] at h2
    obtain ⟨n, hn, h3⟩ := Option.bind_eq_some_iff.1 h2
    split at h3
    · rename_i hfit
      injection h3 with h3
      subst h3
      obtain ⟨vs, hl, hc, hv⟩ := hR.cells hr hi hfit
      have hload := run_loadCells_list (P := P) w ⟨i.blk, i.base + o, none⟩ vs hc
      rw [hl] at hload
      refine ⟨.agg vs.toArray, by simp [loadVar, run_isAgg hg, run_sizeOf hn, hload], ?_⟩
      obtain ⟨e1, e2⟩ := ER_of_lists (ρ := ρ) (l := (c.drop o).take n) (l' := vs) (by simp [hl]; omega) hv
      exact .agg _ _ e1 e2
    · cases h3
  | false =>
    simp only [Bool.false_eq_true, if_false] at h2
    have ho : o < c.length := (List.getElem?_eq_some_iff.1 h2).1
    obtain ⟨v', h1, h2', _⟩ := hR.cell hr hi ho
    rw [List.getD_eq_getElem?_getD, h2, Option.getD_some] at h2'
    exact ⟨v', by simp [loadVar, run_isAgg hg, h1], h2'⟩

theorem bytesOf_run : ∀ (l : List Value) (bs : List UInt8), bytesOf l = some bs → ∀ (l' : List Value), l.length = l'.length → (∀ j, VR ρ (l.getD j undef) (l'.getD j undef)) →
    ∃ ns : List Int, l' = ns.map (Value.int .u8) ∧ bs = ns.map fun n => UInt8.ofNat n.toNat
  | [], bs, h, l', hl, _ => by
    simp only [bytesOf, Option.some.injEq] at h
    subst h
    have : l' = [] := List.eq_nil_of_length_eq_zero (by simpa using hl.symm)
    exact ⟨[], by simp [this], rfl⟩
  | v :: l, bs, h, [], hl, _ => by simp at hl
  | v :: l, bs, h, v' :: l', hl, hr => by
    simp only [bytesOf] at h
    obtain ⟨b, hb, h⟩ := Option.bind_eq_some_iff.1 h
    obtain ⟨bs', hbs, rfl⟩ := Option.map_eq_some_iff.1 h
    obtain ⟨ns, e1, e2⟩ := bytesOf_run l bs' hbs l' (by simpa using hl) (fun j => by simpa using hr (j + 1))
    unfold toByte at hb
    split at hb
    · rename_i n
      injection hb with hb
      have h0 : VR ρ (.int .u8 n) v' := by simpa using hr 0
      exact ⟨n :: ns, by simp [h0.int_inv, e1], by simp [← hb, e2]⟩
    · cases hb

theorem push_fold (ns : List Int) : ∀ (s : ByteArray), ns.foldl (fun (r : ByteArray) n => r.push (UInt8.ofNat n.toNat)) s = ⟨s.data ++ (ns.map fun n => UInt8.ofNat n.toNat).toArray⟩ := by
  induction ns with
  | nil => intro s; simp
  | cons n ns ih =>
    intro s
    simp only [List.foldl_cons]
    rw [ih]
    show (⟨s.data.push _ ++ _⟩ : ByteArray) = _
    congr 1
    apply Array.ext'
    simp

theorem readOp_run (hR : Rel B w0 ρ σ w) {a : Env} {b : Act} (hE : ER ρ a b.tmps) {o : Oper} {v : Value} {rd : List Nat} (h : readOp P (aev a) σ o.op = some (v, rd)) :
    ∃ v', (execOp b.eval o).run P w = .ok (.value v') w ∧ VR ρ v v' := by
  obtain ⟨dst, op, type, pos, after, guard⟩ := o
  simp only at h
  unfold readOp at h
  split at h
  · rename_i t x
    split at h
    · rename_i r o hx
      split at h
      · rename_i c ro hr
        obtain ⟨v0, hv0, e⟩ := Option.map_eq_some_iff.1 h
        simp only [Prod.mk.injEq] at e
        obtain ⟨rfl, rfl⟩ := e
        have hx' := hE.ev x
        rw [hx] at hx'
        generalize hy : b.eval x = y at hx'
        cases hx' with
        | sc _ hs => cases hs
        | ptr _ _ i hi =>
          obtain ⟨v', h1, h2⟩ := lPart_run hR hr hi hv0
          exact ⟨v', by simp [execOp, hy, Instr.loadAt, Instr.sureAddr, h1], h2⟩
      · cases h
    · cases h
  · rename_i src dst' x
    split at h
    · rename_i e hs hd
      split at h
      · rename_i he
        have hx' := hE.ev x
        split at h
        · rename_i hx
          simp only [Option.some.injEq, Prod.mk.injEq] at h
          obtain ⟨rfl, rfl⟩ := h
          rw [hx] at hx'
          refine ⟨.string ⟨#[]⟩, ?_, .sc _ rfl⟩
          have := run_convert_bytes_string (P := P) w src dst' e none 0 0 hs he hd
          simp only [execOp, hx'.of_scalar rfl, Sem.run_bind, this]
          rfl
        · rename_i r o sp len cap hx
          rw [hx] at hx'
          generalize hy : b.eval x = y at hx'
          have hy' : ∃ a' cap', y = .slice (some a') len cap' ∧ (len ≠ 0 → ∃ i, ρ r = some i ∧ a' = ⟨i.blk, i.base + o, none⟩) := by
            cases hx' with
            | sc _ hs => cases hs
            | sl _ _ _ _ i hi => exact ⟨_, _, rfl, fun _ => ⟨i, hi, rfl⟩⟩
            | slx _ _ _ _ _ _ i hi => exact ⟨_, _, rfl, fun _ => ⟨i, hi, rfl⟩⟩
            | wild => exact ⟨_, _, rfl, fun hh => absurd rfl hh⟩
          obtain ⟨a', cap', rfl, hloc⟩ := hy'
          have hconv := run_convert_bytes_string (P := P) w src dst' e (some a') len cap' hs he hd
          split at h
          · rename_i h0
            subst h0
            simp only [Option.some.injEq, Prod.mk.injEq] at h
            obtain ⟨rfl, rfl⟩ := h
            refine ⟨.string ⟨#[]⟩, ?_, .sc _ rfl⟩
            have hb := run_bytesToString (P := P) w a' 0 cap' [] (by simp [loadCells, loadCellsFrom])
            simp only [execOp, hy, Sem.run_bind, hconv, hb]
            rfl
          · rename_i h0
            obtain ⟨i, hi, rfl⟩ := hloc h0
            split at h
            · rename_i c ro hr
              split at h
              · rename_i hfit
                obtain ⟨l, hl, e⟩ := Option.map_eq_some_iff.1 h
                simp only [Prod.mk.injEq] at e
                obtain ⟨rfl, rfl⟩ := e
                obtain ⟨vs, g1, g2, g3⟩ := hR.cells hr hi hfit
                obtain ⟨ns, e1, e2⟩ := bytesOf_run (ρ := ρ) _ l hl vs (by simp [g1]; omega) g3
                have hload := run_loadCells_list (P := P) w ⟨i.blk, i.base + o, none⟩ vs g2
                rw [g1, e1] at hload
                have hb := run_bytesToString (P := P) w ⟨i.blk, i.base + o, none⟩ len cap' ns hload
                rw [push_fold] at hb
                refine ⟨.string ⟨l.toArray⟩, ?_, .sc _ rfl⟩
                simp only [execOp, hy, Sem.run_bind, hconv, hb, e2]
                simp [ByteArray.empty, ByteArray.emptyWithCapacity]
                rfl
              · cases h
            · cases h
        · cases h
      · cases h
    · cases h
  · cases h
end

/-! ### what makes memory -/
def zrow (z : Value) (n : Nat) : List Value := (List.range n).map fun j => z.cells.getD (j % z.cells.size) undef

theorem zrow_length (z : Value) (n : Nat) : (zrow z n).length = n := by simp [zrow]

theorem zrow_getD (z : Value) (n j : Nat) (h : j < n) : (zrow z n).getD j undef = z.cells.getD (j % z.cells.size) undef := by
  simp only [zrow, List.getD_eq_getElem?_getD, List.getElem?_map, List.getElem?_range h, Option.map_some, Option.getD_some]

/-- The zero of a type, its cells as many as the type says. -/
def zeroT (t : TypeId) : Option Value := (P.info? t).bind fun i => i.zero.bind fun z => if constOK z && decide (z.cells.size = i.size) && decide (0 < i.size) then some z else none

def allocOp (ev : Operand → Value) (N : Nat) : Op → Option (Value × List Value)
  | .alloc t => (zeroT P t).map fun z => (.pointer (some ⟨N, 0, none⟩), z.cells.toList)
  | .box _ x => if isTuple (ev x) then none else some (.pointer (some ⟨N, 0, none⟩), (ev x).cells.toList)
  | .buildSlice t len parts => match P.underlying t with
    | some (.slice e) => (zeroT P e).bind fun z =>
      if len * z.cells.size ≤ 2 ^ 24 ∧ (parts.toList.map fun p => (p.1, ev p.2)).all (fun p => !isTuple p.2) then
        (Instr.fill (fun i => some (i * z.cells.size, z.cells.size)) (zrow z (len * z.cells.size)).toArray (parts.toList.map fun p => (p.1, ev p.2))).map fun cs =>
          (.slice (some ⟨N, 0, none⟩) len len, cs.toList)
      else none
    | _ => none
  | .makeSlice t l c => match P.underlying t, ev l, ev c with
    | some (.slice e), .int _ l, .int _ c => (zeroT P e).bind fun z => (P.info? e).bind fun i =>
      if 0 ≤ l ∧ l ≤ c ∧ c < 9223372036854775808 ∧ (i.bytes : Int) * c ≤ 2 ^ 48 then some (.slice (some ⟨N, 0, none⟩) l.toNat c.toNat, zrow z (c.toNat * z.cells.size)) else none
    | _, _, _ => none
  | .convert src dst x => match P.underlying src, P.underlying dst, ev x with
    | some .string, some (.slice e), .string s => match P.underlying e with
      | some (.int .u8) => some (.slice (some ⟨N, 0, some 1⟩) s.size s.size, byteCells s)
      | _ => none
    | _, _, _ => none
  | _ => none

end Go.Corb

/- The abstract machine, part 9: operations that make memory are what the model does. Conditions: none. -/
set_option linter.unusedVariables false
set_option linter.unusedSimpArgs false
namespace Go.Corb
open Go Go.RowKit
section
variable {P : Program} {B : Nat} {w0 w : World} {ρ : RMap} {σ : AS}

theorem Rel.allocCells (hR : Rel B w0 ρ σ w) {N : Nat} (hN : ρ N = none) {c : List Value} {cs : Array Value} {e : TypeId} {fr : Nat × Nat} (hl : c.length ≤ cs.size)
    (hv : ∀ j, j < c.length → VR ρ (c.getD j undef) (cs.getD j undef)) (hf : ∀ j, j < cs.size → ¬ (fr.1 ≤ j ∧ j < fr.2)) :
    Rel B w0 (ρ.set N ⟨w.heap.size, 0, cs.size⟩) (σ.put N (.cells c false)) (w.alloc (.cells cs e fr)) := by
  refine hR.alloc hN (i := ⟨w.heap.size, 0, cs.size⟩) rfl ?_
  refine ⟨cs, e, fr, heap_alloc_new w _, rfl, by simpa using hl, fun j hj => ?_, fun _ => ⟨hR.hB, hf⟩⟩
  rw [Nat.zero_add]
  exact (hv j hj).mono (RMap.set_ext hN _)

theorem zeroT_spec {t : TypeId} {z : Value} (h : zeroT P t = some z) : ∃ i, P.info? t = some i ∧ i.zero = some z ∧ constOK z = true ∧ z.cells.size = i.size ∧ 0 < i.size := by
  unfold zeroT at h
  obtain ⟨i, hi, h⟩ := Option.bind_eq_some_iff.1 h
  obtain ⟨z', hz, h⟩ := Option.bind_eq_some_iff.1 h
  split at h
  · rename_i hc
    injection h with h
    subst h
    simp only [Bool.and_eq_true, decide_eq_true_eq] at hc
    exact ⟨i, hi, hz, hc.1.1, hc.1.2, hc.2⟩
  · cases h

theorem const_cells {ρ : RMap} {z : Value} (h : constOK z = true) (j : Nat) : VR ρ (z.cells.getD j undef) (z.cells.getD j undef) := (ER.const h).2 j

theorem zrow_rel {ρ : RMap} {z : Value} (h : constOK z = true) (n j : Nat) : VR ρ ((zrow z n).getD j undef) ((zrow z n).getD j undef) := by
  by_cases hj : j < n
  · rw [zrow_getD z n j hj]; exact const_cells h _
  · rw [List.getD_eq_getElem?_getD, List.getElem?_eq_none (by rw [zrow_length]; omega)]; exact .und

theorem zrow_model (z : Value) (n : Nat) (h : 0 < z.cells.size ∨ n = 0) : (Array.range n).map (fun j => z.cells[j % z.cells.size]!) = (zrow z n).toArray := by
  apply Array.ext'
  simp only [Array.toList_map, Array.toList_range, zrow]
  apply List.map_congr_left
  intro j hj
  have hj' : j < n := by simpa using hj
  have hlt : j % z.cells.size < z.cells.size := Nat.mod_lt _ (by omega)
  simp [hlt, Array.getD_eq_getD_getElem?]

theorem parts_rel {a : Env} {b : Act} (hE : ER ρ a b.tmps) (parts : Array (Nat × Operand)) (hc : (parts.toList.map fun p => (p.1, aev a p.2)).all (fun p => !isTuple p.2) = true) :
    ∀ (j : Nat) p p', (parts.toList.map fun p => (p.1, aev a p.2))[j]? = some p → (parts.map fun (i, x) => (i, b.eval x)).toList[j]? = some p' → p.1 = p'.1 ∧ isTuple p.2 = false ∧ VR ρ p.2 p'.2 := by
  intro j p p' h1 h2
  have hm := List.all_eq_true.1 hc p (List.mem_of_getElem? h1)
  simp only [List.getElem?_map, Array.toList_map, Array.getElem?_toList] at h1 h2
  cases hq : parts[j]? with
  | none => simp [hq] at h1
  | some q =>
    simp only [hq, Option.map_some, Option.some.injEq] at h1 h2
    subst h1
    subst h2
    exact ⟨rfl, by simpa using hm, hE.ev q.2⟩

theorem fill_size {place : Nat → Option (Nat × Nat)} : ∀ (ps : List (Nat × Value)) (c r : Array Value), Instr.fill place c ps = some r → r.size = c.size
  | [], c, r, h => by simp only [Instr.fill, Option.some.injEq] at h; rw [h]
  | (i, v) :: ps, c, r, h => by
    simp only [Instr.fill] at h
    split at h
    · cases h
    · split at h
      · cases h
      · rw [fill_size ps _ r h]
        have : ∀ (l : List (Value × Nat)) (c : Array Value) (off : Nat), (l.foldl (fun cs (x, j) => cs.setIfInBounds (off + j) x) c).size = c.size := by
          intro l
          induction l with
          | nil => intro c off; rfl
          | cons x l ih => intro c off; simp only [List.foldl_cons]; rw [ih]; simp
        rw [← Array.foldl_toList, this]

theorem allocOp_run (hR : Rel B w0 ρ σ w) {a : Env} {b : Act} (hE : ER ρ a b.tmps) {N : Nat} (hN : ρ N = none) {o : Oper} {v : Value} {c : List Value} (h : allocOp P (aev a) N o.op = some (v, c)) :
    ∃ v' w' i, (execOp b.eval o).run P w = .ok (.value v') w' ∧ VR (ρ.set N i) v v' ∧ Rel B w0 (ρ.set N i) (σ.put N (.cells c false)) w' := by
  obtain ⟨dst, op, type, pos, after, guard⟩ := o
  simp only at h
  unfold allocOp at h
  have nofr : ∀ n j : Nat, j < n → ¬ ((0, 0) : Nat × Nat).1 ≤ j ∨ ¬ j < ((0, 0) : Nat × Nat).2 := by simp
  split at h
  · -- alloc
    rename_i t
    obtain ⟨z, hz, e⟩ := Option.map_eq_some_iff.1 h
    simp only [Prod.mk.injEq] at e
    obtain ⟨rfl, rfl⟩ := e
    obtain ⟨i, hi, hzz, hc, hs, hp⟩ := zeroT_spec hz
    refine ⟨.pointer (some ⟨w.heap.size, 0, none⟩), w.alloc (.cells z.cells t), ⟨w.heap.size, 0, z.cells.size⟩, ?_, ?_, ?_⟩
    · simp [execOp, Instr.alloc, zeroValue, typeInfo, hi, hzz, newVar, newRow]
    · have := VR.ptr (ρ := ρ.set N ⟨w.heap.size, 0, z.cells.size⟩) N 0 ⟨w.heap.size, 0, z.cells.size⟩ (by simp [RMap.set])
      simpa using this
    · exact hR.allocCells hN (by simp) (fun j _ => by simpa [Array.getD_eq_getD_getElem?, List.getD_eq_getElem?_getD] using const_cells hc j) (by simp)
  · -- box
    rename_i t x
    split at h
    · cases h
    · rename_i ht
      simp only [Option.some.injEq, Prod.mk.injEq] at h
      obtain ⟨rfl, rfl⟩ := h
      have hx := VR_cells (hE.ev x) (by simpa using ht)
      refine ⟨.pointer (some ⟨w.heap.size, 0, none⟩), w.alloc (.cells (b.eval x).cells t), ⟨w.heap.size, 0, (b.eval x).cells.size⟩, ?_, ?_, ?_⟩
      · simp [execOp, Instr.box, newVar, newRow]
      · have := VR.ptr (ρ := ρ.set N ⟨w.heap.size, 0, (b.eval x).cells.size⟩) N 0 ⟨w.heap.size, 0, (b.eval x).cells.size⟩ (by simp [RMap.set])
        simpa using this
      · exact hR.allocCells hN (by simp [hx.1]) (fun j _ => by simpa [Array.getD_eq_getD_getElem?, List.getD_eq_getElem?_getD] using hx.2 j) (by simp)
  · -- buildSlice
    rename_i t len parts
    split at h
    · rename_i e hu
      obtain ⟨z, hz, h⟩ := Option.bind_eq_some_iff.1 h
      obtain ⟨i, hi, hzz, hc, hs, hp⟩ := zeroT_spec hz
      split at h
      · rename_i hcond
        obtain ⟨cs, hcs, e⟩ := Option.map_eq_some_iff.1 h
        simp only [Prod.mk.injEq] at e
        obtain ⟨rfl, rfl⟩ := e
        have h0 : ER ρ (zrow z (len * z.cells.size)).toArray (zrow z (len * z.cells.size)).toArray := ER_of_lists rfl (fun j => zrow_rel hc _ j)
        obtain ⟨cs', hcs', her⟩ := fill_rel (ρ := ρ) _ _ ((parts.map fun (i, x) => (i, b.eval x)).toList) _ _ h0 (by simp) (parts_rel hE parts hcond.2) cs hcs
        have hmod := zrow_model z (len * z.cells.size) (by rw [hs]; exact .inl hp)
        refine ⟨.slice (some ⟨w.heap.size, 0, none⟩) len len, w.alloc (.cells cs' e), ⟨w.heap.size, 0, cs'.size⟩, ?_, ?_, ?_⟩
        · have h24 : ¬ (2 ^ 24 < len * i.size) := by rw [← hs]; omega
          simp only [execOp, Instr.buildSlice, Sem.run_bind, run_underlying hu, Result.andThen_ok, sizeOf, typeInfo, Sem.run_pure, run_program, hi]
          simp only [gt_iff_lt, if_neg h24, Sem.run_bind, Sem.run_pure, Result.andThen_ok]
          by_cases hz0 : len * i.size = 0
          · rw [if_pos hz0]
            have hf2 : Instr.fill (fun j => some (j * i.size, i.size)) ((Array.range (len * i.size)).map fun j => (#[] : Array Value)[j % (#[] : Array Value).size]!) (parts.map fun (i, x) => (i, b.eval x)).toList = some cs' := by
              rw [← hs] at hz0 ⊢
              rw [hz0] at hcs' ⊢
              simpa [zrow, show Array.range 0 = #[] from rfl] using hcs'
            simp only [Sem.run_bind, Sem.run_pure, Result.andThen_ok, hf2, newRow, run_newObj]
            rfl
          · rw [if_neg hz0]
            have hf2 : Instr.fill (fun j => some (j * i.size, i.size)) ((Array.range (len * i.size)).map fun j => z.cells[j % z.cells.size]!) (parts.map fun (i, x) => (i, b.eval x)).toList = some cs' := by
              rw [← hs, hmod]; exact hcs'
            simp only [Sem.run_bind, Sem.run_pure, Result.andThen_ok, zeroValue, typeInfo, run_program, hi, hzz, hf2, newRow, run_newObj]
            rfl
        · have := VR.sl (ρ := ρ.set N ⟨w.heap.size, 0, cs'.size⟩) N 0 len len ⟨w.heap.size, 0, cs'.size⟩ (by simp [RMap.set])
          simpa using this
        · exact hR.allocCells hN (by simp [her.1]) (fun j _ => by simpa [Array.getD_eq_getD_getElem?, List.getD_eq_getElem?_getD] using her.2 j) (by simp)
      · cases h
    · cases h
  · -- makeSlice
    rename_i t lo co
    split at h
    · rename_i e k l k' m hu hlv hcv
      obtain ⟨z, hz, h⟩ := Option.bind_eq_some_iff.1 h
      obtain ⟨i, hi, hzz, hc, hs, hp⟩ := zeroT_spec hz
      obtain ⟨i', hi', h⟩ := Option.bind_eq_some_iff.1 h
      obtain rfl : i = i' := by rw [hi] at hi'; injection hi'
      split at h
      · rename_i hb
        simp only [Option.some.injEq, Prod.mk.injEq] at h
        obtain ⟨rfl, rfl⟩ := h
        have el := hE.ev lo
        rw [hlv] at el
        have ec := hE.ev co
        rw [hcv] at ec
        obtain ⟨b1, b2, b3, b4⟩ := hb
        have w1 : IntKind.i64.wrap l = l := IntWalk.i64_in _ (by omega)
        have w2 : IntKind.i64.wrap m = m := IntWalk.i64_in _ (by omega)
        refine ⟨.slice (some ⟨w.heap.size, 0, none⟩) l.toNat m.toNat, w.alloc (.cells (zrow z (m.toNat * z.cells.size)).toArray e), ⟨w.heap.size, 0, (zrow z (m.toNat * z.cells.size)).toArray.size⟩, ?_, ?_, ?_⟩
        · have hcond : ¬ ((decide (m < 0) || decide ((i.bytes : Int) * m > 2 ^ 48)) || decide (l < 0) || decide (l > m)) = true := by
            simp; omega
          have hmod := zrow_model z (m.toNat * z.cells.size) (by rw [hs]; exact .inl hp)
          simp only [execOp, Instr.makeSlice, Sem.run_bind, run_underlying hu, Result.andThen_ok, sizeOf, typeInfo, Sem.run_pure, run_program, hi, el.int_inv, ec.int_inv, asInt, asIntOf, w1, w2]
          simp only [if_neg hcond, Sem.run_bind, Sem.run_pure, Result.andThen_ok, run_askRoom, hi, run_program]
          by_cases hz0 : m.toNat * i.size = 0
          · rw [if_pos hz0]
            have hrow : (Array.range (m.toNat * i.size)).map (fun j => (#[] : Array Value)[j % (#[] : Array Value).size]!) = (zrow z (m.toNat * z.cells.size)).toArray := by
              rw [← hs] at hz0 ⊢; rw [hz0]; simp [zrow, show Array.range 0 = #[] from rfl]
            simp only [Sem.run_bind, Sem.run_pure, Result.andThen_ok, hrow, newRow, run_newObj]
            rfl
          · rw [if_neg hz0]
            have hrow : (Array.range (m.toNat * i.size)).map (fun j => z.cells[j % z.cells.size]!) = (zrow z (m.toNat * z.cells.size)).toArray := by
              rw [← hs, hmod]
            simp only [Sem.run_bind, Sem.run_pure, Result.andThen_ok, zeroValue, typeInfo, run_program, hi, hzz, hrow, newRow, run_newObj]
            rfl
        · have := VR.sl (ρ := ρ.set N ⟨w.heap.size, 0, (zrow z (m.toNat * z.cells.size)).toArray.size⟩) N 0 l.toNat m.toNat ⟨w.heap.size, 0, (zrow z (m.toNat * z.cells.size)).toArray.size⟩ (by simp [RMap.set])
          simpa using this
        · exact hR.allocCells hN (by simp) (fun j _ => by simpa [Array.getD_eq_getD_getElem?, List.getD_eq_getElem?_getD] using zrow_rel hc _ j) (by simp)
      · cases h
    · cases h
  · -- convert
    rename_i src dst' x
    split at h
    · rename_i e s hs hd hx
      split at h
      · rename_i he
        simp only [Option.some.injEq, Prod.mk.injEq] at h
        obtain ⟨rfl, rfl⟩ := h
        have ex := hE.ev x
        rw [hx] at ex
        have hex : b.eval x = .string s := ex.str_inv
        have hrun := run_bytes_of_string (P := P) w src dst' e s hs hd he
        have hge := grownCap_ge w s.size 0 e
        refine ⟨_, _, ⟨w.heap.size, 0, (bytesRow s (grownCap w s.size 0 e)).size⟩, by simp only [execOp, hex, Sem.run_bind, hrun]; rfl, ?_, ?_⟩
        · have hsz : (bytesRow s (grownCap w s.size 0 e)).size = grownCap w s.size 0 e := by
            have : s.data.size = s.size := rfl
            simp [bytesRow, this]; omega
          have := VR.slx (ρ := ρ.set N ⟨w.heap.size, 0, (bytesRow s (grownCap w s.size 0 e)).size⟩) N 0 1 s.size s.size (grownCap w s.size 0 e) ⟨w.heap.size, 0, (bytesRow s (grownCap w s.size 0 e)).size⟩ (by simp [RMap.set]) (by omega) hge (by simp [hsz])
          simpa using this
        · refine hR.drew.allocCells (w := w.drew) hN ?_ ?_ ?_
          · have : s.data.size = s.size := rfl
            simp [byteCells_length, bytesRow, this]
          · intro j hj
            rw [byteCells_length] at hj
            have hj' : j < s.data.size := hj
            have e1 : (byteCells s).getD j undef = .int .u8 (s.data[j]).toNat := by
              simp only [byteCells, List.getD_eq_getElem?_getD, List.getElem?_map, Array.getElem?_toList, Array.getElem?_eq_getElem hj', Option.map_some, Option.getD_some]
            have e2 : (bytesRow s (grownCap w s.size 0 e)).getD j undef = .int .u8 (s.data[j]).toNat := by
              rw [bytesRow, Array.getD_eq_getD_getElem?, Array.getElem?_append_left (by simpa using hj')]
              simp only [Array.getElem?_map, Array.getElem?_eq_getElem hj', Option.map_some, Option.getD_some]
            rw [e1, e2]
            exact .sc _ rfl
          · intro j hj; omega
      · cases h
    · cases h
  · cases h
end

end Go.Corb

/- The abstract machine, part 10: operations that write. Conditions: none. -/
set_option linter.unusedVariables false
set_option linter.unusedSimpArgs false
namespace Go.Corb
open Go Go.RowKit
variable (P : Program)

/-- The first n elements (size cells each) of a slice, or the bytes of a string. -/
def srcCells (σ : AS) (size n : Nat) (x : Value) : Option (List Value) :=
  match x with
  | .slice none 0 0 => if n = 0 then some [] else none
  | .slice (some ⟨r, o, _⟩) len _ =>
    if n = 0 then some [] else if len < n then none else
    match σ.heap r with
    | some (.cells c _) => if o + n * size ≤ c.length ∧ ((c.drop o).take (n * size)).all (·.oneCell') then some ((c.drop o).take (n * size)) else none
    | _ => none
  | .string s => if n ≤ s.size ∧ size = 1 then some ((byteCells s).take n) else none
  | _ => none

def lenVal : Value → Option Nat
  | .slice _ n _ => some n
  | .string s => some s.size
  | _ => none

def aStore (σ : AS) (t : TypeId) (x v : Value) : Option AS :=
  match x with
  | .pointer (some ⟨r, o, none⟩) => match σ.heap r with
    | some (.cells c false) =>
      if σ.prot r = false ∧ isTuple v = false ∧ v.cells.all (·.oneCell') = true ∧ szT P t = some v.cells.size ∧ o + v.cells.size ≤ c.length then
        some (σ.put r (.cells (wr c o v.cells.toList) false))
      else none
    | _ => none
  | _ => none

/-- Writing n elements at place k of a slice. -/
def aPutAt (σ : AS) (size : Nat) (x : Value) (k : Nat) (news : List Value) : Option AS :=
  match x with
  | .slice (some ⟨r, o, _⟩) _ _ => match σ.heap r with
    | some (.cells c false) => if σ.prot r = false ∧ o + k * size + news.length ≤ c.length then some (σ.put r (.cells (wr c (o + k * size) news) false)) else none
    | _ => none
  | _ => none

def isIntT (t : TypeId) : Bool := match P.underlying t with
  | some (.int _) => true
  | _ => false
def isSeqT (t : TypeId) : Bool := match P.underlying t with
  | some (.slice _) => true
  | some .string => true
  | _ => false

def appCore (σ : AS) (N size bytes n : Nat) (news : List Value) (zeros : Bool) (s : Value) : Option (Value × AS) :=
  match s with
  | .slice none 0 0 => if n = 0 then (if zeros then none else some (.slice none 0 0, σ)) else
    if n * bytes ≤ 140737488355328 then some (.slice (some ⟨N, 0, some size⟩) n n, σ.put N (.cells news false)) else none
  | .slice (some ⟨r, o, sp⟩) len cap =>
    if sp ≠ none ∧ sp ≠ some size then none
    else if len + n ≤ cap then
      (if zeros then none else if n = 0 then some (.slice (some ⟨r, o, sp⟩) len cap, σ) else (aPutAt σ size (.slice (some ⟨r, o, sp⟩) len cap) len news).map (.slice (some ⟨r, o, sp⟩) (len + n) cap, ·))
    else if (len + n) * bytes ≤ 140737488355328 then
      match sp with
      | none => (srcCells σ size len (.slice (some ⟨r, o, none⟩) len cap)).map fun olds => (.slice (some ⟨N, 0, some size⟩) (len + n) (len + n), σ.put N (.cells (olds ++ news) false))
      | some _ => if zeros then none else match σ.heap r with
        | some (.cells c false) => if σ.prot r = false ∧ o + len * size ≤ c.length ∧ ((c.drop o).take (len * size)).all (·.oneCell') then
            some (.slice (some ⟨N, 0, some size⟩) (len + n) (len + n), (σ.del r).put N (.cells ((c.drop o).take (len * size) ++ news) false)) else none
        | _ => none
    else none
  | _ => none

def aAppend (N : Nat) (σ : AS) (t tx : TypeId) (s x : Value) : Option (Value × AS) :=
  match P.underlying t with
  | some (.slice e) => (zeroT P e).bind fun z => (P.info? e).bind fun i =>
    if i.bytes = 0 then none else
    if isIntT P tx then (match x with
      | .int _ m => if 0 < m ∧ m < 281474976710656 ∧ m * i.bytes ≤ 281474976710656 then appCore σ N i.size i.bytes m.toNat (zrow z (m.toNat * z.cells.size)) true s else none
      | _ => none)
    else if isSeqT P tx then (lenVal x).bind fun n => (srcCells σ i.size n x).bind fun news => appCore σ N i.size i.bytes n news false s else none
  | _ => none

def aCopy (σ : AS) (t tx : TypeId) (d x : Value) : Option (Value × AS) :=
  match P.underlying t, d with
  | some (.slice e), .slice _ dl _ => (szT P e).bind fun size => (lenVal x).bind fun xl =>
    (srcCells σ size (min xl dl) x).bind fun news =>
    if min xl dl = 0 then some (.int .i64 (0 : Nat), σ) else (aPutAt σ size d 0 news).map (.int .i64 (min xl dl : Nat), ·)
  | _, _ => none

def writeOp (ev : Operand → Value) (N : Nat) (σ : AS) : Op → Option (Value × AS)
  | .store t x v => (aStore P σ t (ev x) (ev v)).map (undef, ·)
  | .call c => match c.callee, c.argTypes[0]?, c.argTypes[1]?, c.args[0]?, c.args[1]? with
    | .builtin .append, some t, some tx, some s, some x => aAppend P N σ t tx (ev s) (ev x)
    | .builtin .copy, some t, some tx, some d, some x => aCopy P σ t tx (ev d) (ev x)
    | _, _, _, _, _ => none
  | _ => none

theorem VR.one {ρ : RMap} {v v' : Value} (h : VR ρ v v') (h1 : v.oneCell' = true) : v'.oneCell' = true := by
  cases h <;> first | rfl | (cases h1; done) | assumption

section
variable {P} {B : Nat} {w0 w : World} {ρ : RMap} {σ : AS}

theorem one_list {ρ : RMap} {l l' : List Value} (hl : l.length = l'.length) (h : ∀ j, VR ρ (l.getD j undef) (l'.getD j undef)) (h1 : ∀ v ∈ l, v.oneCell' = true) : ∀ v ∈ l', v.oneCell' = true := by
  intro v hv
  obtain ⟨j, hj, rfl⟩ := List.mem_iff_getElem.1 hv
  have hj' : j < l.length := by omega
  have := h j
  simp only [List.getD_eq_getElem?_getD, List.getElem?_eq_getElem hj, List.getElem?_eq_getElem hj', Option.getD_some] at this
  exact this.one (h1 _ (List.getElem_mem hj'))

/-- Cells stored, in the world. -/
theorem store_run (hR : Rel B w0 ρ σ w) {r : Nat} {c : List Value} (hr : σ.heap r = some (.cells c false)) {i : RI} (hi : ρ r = some i) {o : Nat} {vs' : List Value}
    (hfit : o + vs'.length ≤ c.length) (h1 : ∀ v ∈ vs', v.oneCell' = true) : (storeCells ⟨i.blk, i.base + o, none⟩ vs').run P w = .ok () (w.setCells i.blk (i.base + o) vs') := by
  have := run_storeCells_cells (P := P) i.blk (i.base + o) vs' 0 w (fun j hj => by
      obtain ⟨v', h, _⟩ := hR.cell hr hi (show o + j < c.length by omega)
      rw [Nat.add_zero, Nat.add_assoc, h]; rfl) (fun j hj => by
      obtain ⟨v', _, _, h⟩ := hR.cell hr hi (show o + j < c.length by omega)
      rw [Nat.add_zero, Nat.add_assoc]; exact h rfl) h1
  simpa using this

theorem aStore_run (hR : Rel B w0 ρ σ w) {t : TypeId} {x v x' v' : Value} {σ' : AS} (h : aStore P σ t x v = some σ') (hx : VR ρ x x') (hv : VR ρ v v') :
    ∃ w', (Instr.storeAt t x' v').run P w = .ok () w' ∧ Rel B w0 ρ σ' w' := by
  unfold aStore at h
  split at h
  · rename_i r o
    split at h
    · rename_i c hr
      split at h
      · rename_i hc
        obtain ⟨_, ht, h1, hsz, hfit⟩ := hc
        injection h with h
        subst h
        cases hx with
        | sc _ hs => cases hs
        | ptr _ _ i hi =>
          have hcells := VR_cells hv ht
          have hlist : ∀ j, VR ρ (v.cells.toList.getD j undef) (v'.cells.toList.getD j undef) := fun j => by simpa [Array.getD_eq_getD_getElem?, List.getD_eq_getElem?_getD] using hcells.2 j
          have h1' : ∀ u ∈ v'.cells.toList, u.oneCell' = true := one_list (by simpa using hcells.1) hlist (fun u hu => (Array.all_eq_true_iff_forall_mem.1 h1) u (by simpa using hu))
          refine ⟨_, ?_, hR.write hr hi (vs' := v'.cells.toList) (by simpa using hcells.1) (by simpa using hfit) hlist⟩
          have hst := store_run (P := P) hR hr hi (o := o) (vs' := v'.cells.toList) (by have := hcells.1; simp; omega) h1'
          simp [Instr.storeAt, Instr.sureAddr, storeVar, run_sizeOf hsz, hcells.1, hst]
      · cases h
    · cases h
  · cases h

theorem srcCells_run (hR : Rel B w0 ρ σ w) {size n : Nat} {x x' : Value} {news : List Value} (h : srcCells σ size n x = some news) (hx : VR ρ x x') :
    ∃ news' : List Value, news'.length = news.length ∧ news.length = n * size ∧ (∀ j, VR ρ (news.getD j undef) (news'.getD j undef)) ∧ (∀ v ∈ news', v.oneCell' = true) ∧ (∀ v ∈ news, v.oneCell' = true) ∧
      (Builtin.firstCells size n x').run P w = .ok news'.toArray w ∧ (Builtin.firstCells size n x').run P w.drew = .ok news'.toArray w.drew := by
  unfold srcCells at h
  split at h
  · split at h
    · rename_i h0
      injection h with h
      subst h; subst h0
      obtain rfl := hx.of_scalar rfl
      exact ⟨[], rfl, by simp, fun j => by simp; exact .und, by simp, by simp, by simp [Builtin.firstCells], by simp [Builtin.firstCells]⟩
    · cases h
  · rename_i r o sp len cap
    have hy' : ∃ a' cap', x' = .slice (some a') len cap' ∧ ((∃ i, ρ r = some i ∧ a' = ⟨i.blk, i.base + o, none⟩) ∨ sp = some 0) := by
      cases hx with
      | sc _ hs => cases hs
      | sl _ _ _ _ i hi => exact ⟨_, _, rfl, .inl ⟨i, hi, rfl⟩⟩
      | slx _ _ _ _ _ _ i hi => exact ⟨_, _, rfl, .inl ⟨i, hi, rfl⟩⟩
      | wild => exact ⟨_, _, rfl, .inr rfl⟩
    obtain ⟨a', cap', rfl, hloc⟩ := hy'
    split at h
    · rename_i h0
      injection h with h
      subst h; subst h0
      exact ⟨[], rfl, by simp, fun j => by simp; exact .und, by simp, by simp, by simp [Builtin.firstCells, loadCells, loadCellsFrom], by simp [Builtin.firstCells, loadCells, loadCellsFrom]⟩
    · rename_i h0
      split at h
      · cases h
      · rename_i hlen
        split at h
        · rename_i c ro hr
          split at h
          · rename_i hc
            obtain ⟨hfit, hone⟩ := hc
            injection h with h
            subst h
            have hi : ∃ i, ρ r = some i ∧ a' = ⟨i.blk, i.base + o, none⟩ := by
              rcases hloc with h | h
              · exact h
              · subst h
                cases hx with
                | sc _ hs => cases hs
                | slx _ _ _ _ _ _ i hi h0' => omega
                | wild => omega
            obtain ⟨i, hi, rfl⟩ := hi
            obtain ⟨vs, g1, g2, g3⟩ := hR.cells hr hi hfit
            have hlen' : ((c.drop o).take (n * size)).length = n * size := by simp; omega
            have hone' : ∀ v ∈ (c.drop o).take (n * size), v.oneCell' = true := List.all_eq_true.1 hone
            refine ⟨vs, by rw [g1, hlen'], hlen', g3, one_list (by rw [g1, hlen']) g3 hone', hone', ?_, ?_⟩
            · exact run_firstCells_some w size n _ len cap' vs g1 g2
            · exact run_firstCells_some w.drew size n _ len cap' vs g1 (by simpa using g2)
          · cases h
        · cases h
  · rename_i s
    split at h
    · rename_i hc
      obtain ⟨hn, rfl⟩ := hc
      injection h with h
      subst h
      obtain rfl := hx.str_inv
      have hlb : ((byteCells s).take n).length = n := by simp [byteCells_length]; omega
      have hsc : ∀ v ∈ byteCells s, scalarOK v = true ∧ v.oneCell' = true := by
        intro v hv
        obtain ⟨b, _, rfl⟩ := List.mem_map.1 hv
        exact ⟨rfl, rfl⟩
      have hcells : ∀ w' : World, (Builtin.firstCells 1 n (.string s)).run P w' = .ok ((byteCells s).take n).toArray w' := by
        intro w'
        have : (s.extract 0 n).data = s.data.extract 0 n := ByteArray.data_extract ..
        simp only [Builtin.firstCells, Sem.run_pure, this, byteCells]
        congr 1
        apply Array.ext'
        simp [← List.map_take]
      refine ⟨(byteCells s).take n, rfl, by rw [hlb]; omega, fun j => ?_, fun v hv => (hsc v (List.mem_of_mem_take hv)).2, fun v hv => (hsc v (List.mem_of_mem_take hv)).2, hcells w, hcells w.drew⟩
      rw [List.getD_eq_getElem?_getD]
      cases hq : ((byteCells s).take n)[j]? with
      | none => exact .und
      | some v => exact .sc _ (hsc v (List.mem_of_mem_take (List.mem_of_getElem? hq))).1
    · cases h
  · cases h
end

end Go.Corb

/- The abstract machine, part 11: append and copy are what the model does. Conditions: none. -/
set_option linter.unusedVariables false
set_option linter.unusedSimpArgs false
namespace Go.Corb
open Go Go.RowKit
section
variable {P : Program} {B : Nat} {w0 w : World} {ρ : RMap} {σ : AS}

theorem zeroCells_model (z : Value) (n : Nat) (h : 0 < z.cells.size) : Builtin.zeroCells z.cells n = (zrow z (n * z.cells.size)).toArray := by
  unfold Builtin.zeroCells
  exact zrow_model z (n * z.cells.size) (.inl h)

theorem run_append_grow_zeros (w : World) (t tx ty e : TypeId) (k0 : IntKind) (i : TypeInfo) (z : Value) (ht : P.underlying t = some (.slice e)) (htx : P.underlying tx = some (.int k0)) (hi : P.info? e = some i) (hz : i.zero = some z)
    (hs : z.cells.size = i.size) (hp : 0 < i.size)
    (base : Option Addr) (sLen sCap : Nat) (olds : List Value)
    (hold : (Builtin.firstCells i.size sLen (.slice base sLen sCap)).run P w.drew = .ok olds.toArray w.drew) (k : IntKind) (m : Int) (hm : 0 < m) (hm2 : m < 281474976710656)
    (hmb : m * i.bytes ≤ 281474976710656)
    (hg : sCap < sLen + m.toNat) (h63 : ((sLen + m.toNat : Nat) : Int) ≤ 9223372036854775807) (hfit : Builtin.nextslicecap (sLen + m.toNat) sCap * i.bytes ≤ 281474976710656) :
    (Builtin.append_ #[t, tx] ty #[.slice base sLen sCap, .int k m]).run P w =
      .ok (.slice (some ⟨w.heap.size, 0, none⟩) (sLen + m.toNat) (grownCap w (sLen + m.toNat) sCap e))
        (w.drew.alloc (.cells ((olds ++ zrow z (m.toNat * z.cells.size)).toArray ++ Builtin.zeroCells z.cells (grownCap w (sLen + m.toNat) sCap e - (sLen + m.toNat))) e)) := by
  have hn : ¬ (sLen + m.toNat ≤ sCap) := by omega
  have hw : IntKind.i64.wrap m = m := IntWalk.i64_in _ (by omega)
  have h0 : ¬ m < 0 := by omega
  have h48 : ¬ (281474976710656 < m * (i.bytes : Int)) := by omega
  have h63' : ¬ (9223372036854775807 < ((sLen : Int) + (m.toNat : Int))) := by omega
  have h48' : ¬ (281474976710656 < Builtin.nextslicecap (sLen + m.toNat) sCap * i.bytes) := by omega
  have hmax : (m.toNat : Int) = max m 0 := by omega
  have hzc := zeroCells_model z m.toNat (by omega)
  have hn0 : ¬ (m.toNat * i.size = 0) := by
    intro h
    rcases Nat.mul_eq_zero.1 h with h | h <;> omega
  have hm' : ¬ m ≤ 0 := by omega
  have hsz : ¬ i.size = 0 := by omega
  simp [Builtin.append_, run_underlying ht, run_underlying htx, sizeOf, typeInfo, zeroValue, hi, hz, asInt, asIntOf, hw, h0, h48, hn, h48', Question.forced, hold, newRow, grownCap, hzc, hm', hsz]
  have h63'' : ¬ (9223372036854775807 < (sLen : Int) + max m 0) := by omega
  rw [if_neg h63'', if_neg hn0]
  congr 3
  apply Array.ext'
  simp

/-- What a new row of an append comes to. -/
theorem Rel.grown (hR : Rel B w0 ρ σ w) {N : Nat} (hN : ρ N = none) {c c' : List Value} {z : Value} {e : TypeId} {size need cap' : Nat} (hz : constOK z = true) (hs : z.cells.size = size) (hp : 0 < size)
    (hl : c'.length = c.length) (hlen : c.length = need * size) (hcap : need ≤ cap') (hv : ∀ j, VR ρ (c.getD j undef) (c'.getD j undef)) :
    VR (ρ.set N ⟨w.heap.size, 0, cap' * size⟩) (.slice (some ⟨N, 0, some size⟩) need need) (.slice (some ⟨w.heap.size, 0, none⟩) need cap') ∧
    Rel B w0 (ρ.set N ⟨w.heap.size, 0, cap' * size⟩) (σ.put N (.cells c false)) (w.drew.alloc (.cells (c'.toArray ++ Builtin.zeroCells z.cells (cap' - need)) e)) := by
  have hsz : (c'.toArray ++ Builtin.zeroCells z.cells (cap' - need)).size = cap' * size := by
    rw [zeroCells_model z _ (by omega), Array.size_append]
    simp only [List.size_toArray, zrow_length, hl, hlen, hs]
    rw [← Nat.add_mul]
    congr 1
    omega
  refine ⟨?_, ?_⟩
  · have := VR.slx (ρ := ρ.set N ⟨w.heap.size, 0, cap' * size⟩) N 0 size need need cap' ⟨w.heap.size, 0, cap' * size⟩ (by simp [RMap.set]) hp hcap (by simp)
    simpa using this
  · have := hR.drew.allocCells (w := w.drew) hN (c := c) (cs := c'.toArray ++ Builtin.zeroCells z.cells (cap' - need)) (e := e) (fr := (0, 0)) (by rw [hsz, hlen]; exact Nat.mul_le_mul_right _ hcap) (fun j hj => ?_) (by simp)
    · rw [hsz] at this; exact this
    · have hj' : j < c'.toArray.size := by simpa [hl] using hj
      rw [Array.getD_eq_getD_getElem?, Array.getElem?_append_left hj']
      simpa [List.getD_eq_getElem?_getD] using hv j

theorem append_lists {ρ : RMap} {a b a' b' : List Value} (hl : a'.length = a.length) (h1 : ∀ j, VR ρ (a.getD j undef) (a'.getD j undef)) (h2 : ∀ j, VR ρ (b.getD j undef) (b'.getD j undef)) (j : Nat) :
    VR ρ ((a ++ b).getD j undef) ((a' ++ b').getD j undef) := by
  have h1 := h1 j
  have h2 := h2 (j - a.length)
  simp only [List.getD_eq_getElem?_getD, List.getElem?_append, hl] at h1 h2 ⊢
  split
  · exact h1
  · exact h2

theorem aPutAt_run (hR : Rel B w0 ρ σ w) {size k : Nat} {x x' : Value} {news news' : List Value} {σ' : AS} (h : aPutAt σ size x k news = some σ') (hx : VR ρ x x') (hn : x' ≠ .slice none 0 0) (hw : ∀ r, x ≠ .slice (some ⟨r, 0, some 0⟩) 0 0)
    (hl : news.length = news'.length) (hv : ∀ j, VR ρ (news.getD j undef) (news'.getD j undef)) (h1 : ∀ v ∈ news', v.oneCell' = true) :
    ∃ i o n c', x' = .slice (some ⟨i, o, none⟩) n c' ∧ Rel B w0 ρ σ' (w.setCells i (o + k * size) news') ∧ (∀ j, j < news'.length → (w.cell? ⟨i, o + k * size + j, none⟩).isSome = true) ∧ (∀ j, j < news'.length → w.frozen? ⟨i, o + k * size + j, none⟩ = false) ∧
      (storeCells ⟨i, o + k * size, none⟩ news').run P w = .ok () (w.setCells i (o + k * size) news') := by
  unfold aPutAt at h
  split at h
  · rename_i r o sp len cap
    split at h
    · rename_i c hr
      split at h
      · rename_i hc
        injection h with h
        subst h
        have hi : ∃ i n c', ρ r = some i ∧ x' = .slice (some ⟨i.blk, i.base + o, none⟩) n c' := by
          cases hx with
          | sc _ hs => cases hs
          | sl _ _ _ _ i hi => exact ⟨i, _, _, hi, rfl⟩
          | slx _ _ _ _ _ _ i hi => exact ⟨i, _, _, hi, rfl⟩
          | wild => exact absurd rfl (hw r)
        obtain ⟨i, n, c', hi, rfl⟩ := hi
        have hfit : o + k * size + news'.length ≤ c.length := by omega
        have hst := store_run (P := P) hR hr hi hfit h1
        rw [← Nat.add_assoc] at hst
        refine ⟨i.blk, i.base + o, n, c', rfl, ?_, ?_, ?_, hst⟩
        · have := hR.write hr hi hl hc.2 hv
          rwa [← Nat.add_assoc] at this
        · intro j hj
          obtain ⟨v', g, _⟩ := hR.cell hr hi (show o + k * size + j < c.length by omega)
          rw [show i.base + o + k * size + j = i.base + (o + k * size + j) by omega, g]
          rfl
        · intro j hj
          obtain ⟨v', _, _, g⟩ := hR.cell hr hi (show o + k * size + j < c.length by omega)
          rw [show i.base + o + k * size + j = i.base + (o + k * size + j) by omega]
          exact g rfl
      · cases h
    · cases h
  · cases h

theorem lenVal_run {ρ : RMap} {x x' : Value} {n : Nat} (h : lenVal x = some n) (hx : VR ρ x x') (w : World) : (Builtin.lenOf x').run P w = .ok n w := by
  unfold lenVal at h
  split at h
  · injection h with h; subst h
    cases hx <;> rfl
  · injection h with h; subst h
    obtain rfl := hx.str_inv
    rfl
  · cases h

theorem isSeqT_spec {t : TypeId} (h : isSeqT P t = true) : (∃ e', P.underlying t = some (.slice e')) ∨ P.underlying t = some .string := by
  unfold isSeqT at h
  split at h
  · exact .inl ⟨_, ‹_›⟩
  · exact .inr ‹_›
  · cases h

theorem isIntT_spec {t : TypeId} (h : isIntT P t = true) : ∃ k, P.underlying t = some (.int k) := by
  unfold isIntT at h
  split at h
  · exact ⟨_, ‹_›⟩
  · cases h

theorem Rel.consumed (hR : Rel B w0 ρ σ w) {N r : Nat} (hN : ρ N = none) {c : List Value} (hr : σ.heap r = some (.cells c false)) {i : RI} (hi : ρ r = some i) {o len n size cap' : Nat}
    {news news' : List Value} (hp : 0 < size) (hfit : o + len * size ≤ c.length) (hcap : len + n ≤ cap') (hin : i.base + o + cap' * size ≤ i.n) (hnl : news.length = n * size) (hl : news'.length = news.length)
    (hv : ∀ j, VR ρ (news.getD j undef) (news'.getD j undef)) :
    VR (ρ.set N ⟨i.blk, i.base + o, i.n⟩) (.slice (some ⟨N, 0, some size⟩) (len + n) (len + n)) (.slice (some ⟨i.blk, i.base + o, none⟩) (len + n) cap') ∧
    Rel B w0 (ρ.set N ⟨i.blk, i.base + o, i.n⟩) ((σ.del r).put N (.cells ((c.drop o).take (len * size) ++ news) false)) (w.setCells i.blk (i.base + o + len * size) news') ∧
    (∀ j, j < news'.length → (w.cell? ⟨i.blk, i.base + o + len * size + j, none⟩).isSome = true) ∧ (∀ j, j < news'.length → w.frozen? ⟨i.blk, i.base + o + len * size + j, none⟩ = false) := by
  have hext := RMap.set_ext hN ⟨i.blk, i.base + o, i.n⟩
  obtain ⟨i', hi', hO⟩ := hR.objs r _ hr
  obtain rfl : i = i' := by rw [hi] at hi'; injection hi'
  obtain ⟨cs, t, fr, h1, h2, h3, h4, h5⟩ := hO
  obtain ⟨hB, hfr⟩ := h5 rfl
  have hmul : (len + n) * size ≤ cap' * size := Nat.mul_le_mul_right _ hcap
  rw [Nat.add_mul] at hmul
  have hroom : i.base + o + len * size + news'.length ≤ cs.size := by omega
  obtain ⟨cs', g1, g2, g3⟩ := setCells_heap i.blk t fr news' (i.base + o + len * size) w cs h1 hroom
  obtain ⟨_, _, _, hsz⟩ := setCells_fields i.blk news' (i.base + o + len * size) w
  have hlen : ((c.drop o).take (len * size)).length = len * size := by simp; omega
  have hrN : r ≠ N := fun e => by subst e; rw [hN] at hi; cases hi
  refine ⟨?_, ⟨below_setCells hR.below hB _ _, by rw [hsz]; exact hR.hB, ?_, ?_, ?_⟩, ?_, ?_⟩
  · have := VR.slx (ρ := ρ.set N ⟨i.blk, i.base + o, i.n⟩) N 0 size (len + n) (len + n) cap' ⟨i.blk, i.base + o, i.n⟩ (by simp [RMap.set]) hp hcap (by simpa using hin)
    simpa using this
  · intro q u hq
    simp only [AS.put, AS.del] at hq
    by_cases e : q = N
    · subst e
      rw [if_pos rfl] at hq
      injection hq with hq
      subst hq
      refine ⟨⟨i.blk, i.base + o, i.n⟩, by simp [RMap.set], cs', t, fr, g1, by show cs'.size = i.n; omega, by show i.base + o + _ ≤ i.n; simp only [List.length_append, hlen]; omega, fun j hj => ?_, fun _ => ⟨hB, hfr⟩⟩
      show VR _ _ (cs'.getD (i.base + o + j) undef)
      rw [g3]
      simp only [List.length_append, hlen] at hj
      by_cases e1 : j < len * size
      · rw [if_neg (by omega)]
        have := (h4 (o + j) (by omega)).mono hext
        rw [← Nat.add_assoc] at this
        have e2 : ((c.drop o).take (len * size) ++ news).getD j undef = c.getD (o + j) undef := by
          simp only [List.getD_eq_getElem?_getD]
          rw [List.getElem?_append_left (by rw [hlen]; exact e1), List.getElem?_take, if_pos e1, List.getElem?_drop]
        rw [e2]
        exact this
      · rw [if_pos (by omega)]
        have e2 : ((c.drop o).take (len * size) ++ news).getD j undef = news.getD (j - len * size) undef := by
          simp only [List.getD_eq_getElem?_getD]
          rw [List.getElem?_append_right (by rw [hlen]; omega), hlen]
        rw [e2, show i.base + o + j - (i.base + o + len * size) = j - len * size by omega]
        exact (hv _).mono hext
    · rw [if_neg e] at hq
      by_cases e2 : q = r
      · rw [if_pos e2] at hq; cases hq
      · rw [if_neg e2] at hq
        obtain ⟨k, hk, hO⟩ := hR.objs q u hq
        refine ⟨k, hext _ _ hk, hO.mono hext (setCells_other _ _ _ _ _ ?_)⟩
        exact fun e' => hR.sep r q _ u i k hr hq hi hk rfl (Ne.symm e2) e'.symm
  · intro a b u v k l ha hb ka lb hro hne
    simp only [AS.put, AS.del] at ha hb
    simp only [RMap.set] at ka lb
    by_cases ea : a = N
    · subst ea
      rw [if_pos rfl] at ka
      injection ka with ka
      subst ka
      rw [if_neg (Ne.symm hne)] at hb lb
      by_cases e2 : b = r
      · rw [if_pos e2] at hb; cases hb
      · rw [if_neg e2] at hb
        exact hR.sep r b _ v i l hr hb hi lb rfl (Ne.symm e2)
    · rw [if_neg ea] at ha ka
      by_cases e2 : a = r
      · rw [if_pos e2] at ha; cases ha
      · rw [if_neg e2] at ha
        by_cases eb : b = N
        · subst eb
          rw [if_pos rfl] at lb
          injection lb with lb
          subst lb
          exact fun e' => hR.sep r a _ u i k hr ha hi ka rfl (Ne.symm e2) e'.symm
        · rw [if_neg eb] at hb lb
          by_cases e3 : b = r
          · rw [if_pos e3] at hb; cases hb
          · rw [if_neg e3] at hb
            exact hR.sep a b u v k l ha hb ka lb hro hne
  · intro q k hq
    rw [hsz]
    simp only [RMap.set] at hq
    by_cases e : q = N
    · rw [if_pos e] at hq; injection hq with hq; subst hq; exact hR.lt r i hi
    · rw [if_neg e] at hq; exact hR.lt q k hq
  · intro j hj
    have : i.base + o + len * size + j < cs.size := by omega
    simp [World.cell?, h1, this]
  · intro j hj
    have := hfr (i.base + o + len * size + j) (by omega)
    simp only [World.frozen?, h1]
    simpa using this

end

end Go.Corb

/- The abstract machine, part 12: append, copy and store as operations. Conditions: none. -/
set_option linter.unusedVariables false
set_option linter.unusedSimpArgs false
namespace Go.Corb
open Go Go.RowKit
section
variable {P : Program} {B : Nat} {w0 w : World} {ρ : RMap} {σ : AS}

/-- What an operation that writes comes to. -/
def WOut (P : Program) (B : Nat) (w0 : World) (ρ : RMap) (N : Nat) (v : Value) (σ' : AS) (s : Sem Value) (w : World) : Prop :=
  ∃ v' w' ρ', s.run P w = .ok v' w' ∧ ρ.Ext ρ' ∧ (∀ q, q ≠ N → ρ' q = ρ q) ∧ VR ρ' v v' ∧ Rel B w0 ρ' σ' w'

theorem set_other (ρ : RMap) (N : Nat) (i : RI) (q : Nat) (h : q ≠ N) : ρ.set N i q = ρ q := if_neg h

theorem aAppend_seq (hR : Rel B w0 ρ σ w) {N : Nat} (hN : ρ N = none) {t tx ty e : TypeId} {z : Value} {i : TypeInfo} (hu : P.underlying t = some (.slice e)) (hi : P.info? e = some i) (hzz : i.zero = some z)
    (hc : constOK z = true) (hs : z.cells.size = i.size) (hp : 0 < i.size) (hb : 0 < i.bytes) (hseq : (∃ e', P.underlying tx = some (.slice e')) ∨ P.underlying tx = some .string)
    {s x s' x' : Value} (hsv : VR ρ s s') (hxv : VR ρ x x') {n : Nat} (hn : lenVal x = some n) {news : List Value} (hnews : srcCells σ i.size n x = some news) {v : Value} {σ' : AS}
    (h : appCore σ N i.size i.bytes n news false s = some (v, σ')) :
    WOut P B w0 ρ N v σ' (Builtin.append_ #[t, tx] ty #[s', x']) w := by
  obtain ⟨news', g1, g2, g3, g4, g5, g6, g7⟩ := srcCells_run (P := P) hR hnews hxv
  have hsrc : Src P i.size tx x' n news' w := ⟨hseq, fun w' => lenVal_run hn hxv w', g6, g7, by rw [g1, g2], g4⟩
  unfold appCore at h
  simp only [Bool.false_eq_true, if_false] at h
  split at h
  · -- onto nil
    obtain rfl := hsv.of_scalar rfl
    split at h
    · rename_i h0
      subst h0
      simp only [Option.some.injEq, Prod.mk.injEq] at h
      obtain ⟨rfl, rfl⟩ := h
      have e0 : news' = [] := List.eq_nil_of_length_eq_zero (by rw [g1, g2]; simp)
      subst e0
      refine ⟨.slice none 0 0, w, ρ, ?_, .refl _, fun _ _ => rfl, .sc _ rfl, hR⟩
      rcases hseq with ⟨e', hk⟩ | hk <;> simp [Builtin.append_, run_underlying hu, run_underlying hk, sizeOf, typeInfo, hi, hsrc.len, g6]
    · rename_i h0
      split at h
      · rename_i hfit
        simp only [Option.some.injEq, Prod.mk.injEq] at h
        obtain ⟨rfl, rfl⟩ := h
        have h63 : ((0 + n : Nat) : Int) ≤ 9223372036854775807 := by have : n ≤ n * i.bytes := Nat.le_mul_of_pos_right _ hb; omega
        have hrun := run_append_grow_src (P := P) w t tx ty e i z hu hi hzz none 0 0 [] (run_firstCells_none w.drew i.size 0 0 0) x' n news' hsrc (by omega) h63 (growslice_fits (by omega) (by simpa using hfit))
        obtain ⟨e1, e2⟩ := hR.grown hN (c := news) (c' := news') (e := e) hc hs hp g1 g2 (grownCap_ge w n 0 e) g3
        simp only [Nat.zero_add, List.nil_append] at hrun
        exact ⟨_, _, _, hrun, RMap.set_ext hN _, fun q hq => set_other _ _ _ q hq, e1, e2⟩
      · cases h
  · rename_i r o sp len cap
    split at h
    · cases h
    · rename_i hsp
      have hform : ∃ a' cap', s' = .slice (some a') len cap' ∧ ((∃ k, ρ r = some k ∧ a' = ⟨k.blk, k.base + o, none⟩ ∧ (sp = none → cap' = cap) ∧ (sp = some i.size → cap ≤ cap' ∧ k.base + o + cap' * i.size ≤ k.n))) := by
        cases hsv with
        | sc _ hs => cases hs
        | sl _ _ _ _ k hk => exact ⟨_, _, rfl, k, hk, rfl, fun _ => rfl, fun h => by cases h⟩
        | slx _ _ sz _ _ cap' k hk h0 hcc hnn =>
          refine ⟨_, _, rfl, k, hk, rfl, fun h => by (cases h), fun h => ?_⟩
          injection h with h
          subst h
          exact ⟨hcc, hnn⟩
        | wild =>
          exfalso
          apply hsp
          refine ⟨by simp, fun h => ?_⟩
          injection h with h
          omega
      obtain ⟨a', cap', rfl, k, hk, rfl, hex, hinx⟩ := hform
      have hcc : cap ≤ cap' := by
        by_cases e : sp = none
        · rw [hex e]; exact Nat.le_refl _
        · by_cases e2 : sp = some i.size
          · exact (hinx e2).1
          · exact absurd ⟨e, e2⟩ hsp
      split at h
      · rename_i hroom
        split at h
        · rename_i h0
          subst h0
          simp only [Option.some.injEq, Prod.mk.injEq] at h
          obtain ⟨rfl, rfl⟩ := h
          have e0 : news' = [] := List.eq_nil_of_length_eq_zero (by rw [g1, g2]; simp)
          subst e0
          have hrun := run_append_room_src (P := P) w t tx ty e i hu hi k.blk (k.base + o) len cap' x' 0 [] hsrc (by omega) (by simp) (by simp)
          exact ⟨_, _, ρ, hrun, .refl _, fun _ _ => rfl, hsv, hR⟩
        · rename_i h0
          obtain ⟨σ1, hput, e1⟩ := Option.map_eq_some_iff.1 h
          simp only [Prod.mk.injEq] at e1
          obtain ⟨rfl, rfl⟩ := e1
          have hnotwild : ∀ r', Value.slice (some ⟨r, o, sp⟩) len cap ≠ .slice (some ⟨r', 0, some 0⟩) 0 0 := by
            intro r' e
            simp only [Value.slice.injEq, Option.some.injEq, Addr.mk.injEq] at e
            omega
          obtain ⟨ib, io, in', ic, e1, e2, e3, e4, e5⟩ := aPutAt_run (P := P) hR hput hsv (by simp) hnotwild g1.symm g3 g4
          simp only [Value.slice.injEq, Option.some.injEq, Addr.mk.injEq] at e1
          obtain ⟨⟨rfl, rfl, _⟩, _, _⟩ := e1
          have hrun := run_append_room_src (P := P) w t tx ty e i hu hi k.blk (k.base + o) len cap' x' n news' hsrc (by omega) e3 e4
          refine ⟨_, _, ρ, hrun, .refl _, fun _ _ => rfl, ?_, e2⟩
          by_cases es : sp = none
          · subst es
            rw [hex rfl]
            exact .sl _ _ _ _ k hk
          · by_cases e2 : sp = some i.size
            · subst e2
              exact .slx _ _ _ _ _ _ k hk hp hcc (hinx rfl).2
            · exact absurd ⟨es, e2⟩ hsp
      · rename_i hroom
        split at h
        · rename_i hfit
          have h63 : ((len + n : Nat) : Int) ≤ 9223372036854775807 := by have : len + n ≤ (len + n) * i.bytes := Nat.le_mul_of_pos_right _ hb; omega
          split at h
          · obtain ⟨olds, hold, e1⟩ := Option.map_eq_some_iff.1 h
            simp only [Prod.mk.injEq] at e1
            obtain ⟨rfl, rfl⟩ := e1
            rw [hex rfl] at hsv ⊢
            obtain ⟨olds', k1, k2, k3, k4, k5, k6, k7⟩ := srcCells_run (P := P) hR hold hsv
            have hrun := run_append_grow_src (P := P) w t tx ty e i z hu hi hzz (some ⟨k.blk, k.base + o, none⟩) len cap olds' k7 x' n news' hsrc (by omega) h63 (growslice_fits (by omega) hfit)
            obtain ⟨e1, e2⟩ := hR.grown hN (c := olds ++ news) (c' := olds' ++ news') (e := e) hc hs hp (by simp [k1, g1]) (by rw [List.length_append, k2, g2, Nat.add_mul]) (grownCap_ge w (len + n) cap e) (append_lists k1 k3 g3)
            exact ⟨_, _, _, hrun, RMap.set_ext hN _, fun q hq => set_other _ _ _ q hq, e1, e2⟩
          · rename_i sz
            have hsz : sz = i.size := by
              by_cases e2 : (some sz) = some i.size
              · injection e2
              · exact absurd ⟨by simp, e2⟩ hsp
            subst hsz
            obtain ⟨_, hin⟩ := hinx rfl
            split at h
            · rename_i c hr
              split at h
              · rename_i hcond
                obtain ⟨_, hfit2, hone⟩ := hcond
                simp only [Option.some.injEq, Prod.mk.injEq] at h
                obtain ⟨rfl, rfl⟩ := h
                by_cases hroom' : len + n ≤ cap'
                · obtain ⟨e1, e2, e3, e4⟩ := hR.consumed hN hr hk hp hfit2 hroom' hin g2 g1 g3
                  have hrun := run_append_room_src (P := P) w t tx ty e i hu hi k.blk (k.base + o) len cap' x' n news' hsrc hroom' e3 e4
                  exact ⟨_, _, _, hrun, RMap.set_ext hN _, fun q hq => set_other _ _ _ q hq, e1, e2⟩
                · obtain ⟨vs, m1, m2, m3⟩ := hR.cells hr hk hfit2
                  have hold := run_firstCells_some (P := P) w.drew i.size len ⟨k.blk, k.base + o, none⟩ len cap' vs m1 (by simpa using m2)
                  have hrun := run_append_grow_src (P := P) w t tx ty e i z hu hi hzz (some ⟨k.blk, k.base + o, none⟩) len cap' vs hold x' n news' hsrc (by omega) h63 (growslice_fits (by omega) hfit)
                  have hl0 : ((c.drop o).take (len * i.size)).length = len * i.size := by simp; omega
                  obtain ⟨e1, e2⟩ := (hR.del r).grown hN (c := (c.drop o).take (len * i.size) ++ news) (c' := vs ++ news') (e := e) hc hs hp (by simp only [List.length_append, m1, g1, hl0]) (by rw [List.length_append, hl0, g2, Nat.add_mul]) (grownCap_ge w (len + n) cap' e) (append_lists (by rw [m1, hl0]) m3 g3)
                  exact ⟨_, _, _, hrun, RMap.set_ext hN _, fun q hq => set_other _ _ _ q hq, e1, e2⟩
              · cases h
            · cases h
        · cases h
  · cases h
theorem appCore_zeros (hR : Rel B w0 ρ σ w) {N : Nat} (hN : ρ N = none) {t tx ty e : TypeId} {z : Value} {i : TypeInfo} (hu : P.underlying t = some (.slice e)) (hi : P.info? e = some i) (hzz : i.zero = some z)
    (hc : constOK z = true) (hs : z.cells.size = i.size) (hp : 0 < i.size) (hb : 0 < i.bytes) {k0 : IntKind} (htx : P.underlying tx = some (.int k0))
    {s s' : Value} (hsv : VR ρ s s') {k : IntKind} {m : Int} (hm : 0 < m) (hm2 : m < 281474976710656) (hmb : m * i.bytes ≤ 281474976710656) {v : Value} {σ' : AS}
    (h : appCore σ N i.size i.bytes m.toNat (zrow z (m.toNat * z.cells.size)) true s = some (v, σ')) :
    WOut P B w0 ρ N v σ' (Builtin.append_ #[t, tx] ty #[s', .int k m]) w := by
  have g2 : (zrow z (m.toNat * z.cells.size)).length = m.toNat * i.size := by rw [zrow_length, hs]
  have g3 : ∀ j, VR ρ ((zrow z (m.toNat * z.cells.size)).getD j undef) ((zrow z (m.toNat * z.cells.size)).getD j undef) := fun j => zrow_rel hc _ j
  have hmn : 0 < m.toNat := by omega
  unfold appCore at h
  simp only [if_true] at h
  split at h
  · obtain rfl := hsv.of_scalar rfl
    rw [if_neg (by omega)] at h
    split at h
    · rename_i hfit
      simp only [Option.some.injEq, Prod.mk.injEq] at h
      obtain ⟨rfl, rfl⟩ := h
      have h63 : ((0 + m.toNat : Nat) : Int) ≤ 9223372036854775807 := by omega
      have hrun := run_append_grow_zeros (P := P) w t tx ty e k0 i z hu htx hi hzz hs hp none 0 0 [] (run_firstCells_none w.drew i.size 0 0 0) k m hm hm2 hmb (by omega) h63 (growslice_fits (by omega) (by simpa using hfit))
      obtain ⟨e1, e2⟩ := hR.grown hN (c := zrow z (m.toNat * z.cells.size)) (c' := zrow z (m.toNat * z.cells.size)) (e := e) hc hs hp rfl g2 (grownCap_ge w m.toNat 0 e) g3
      simp only [Nat.zero_add, List.nil_append] at hrun
      exact ⟨_, _, _, hrun, RMap.set_ext hN _, fun q hq => set_other _ _ _ q hq, e1, e2⟩
    · cases h
  · rename_i r o sp len cap
    split at h
    · cases h
    · split at h
      · cases h
      · rename_i hroom
        split at h
        · rename_i hfit
          split at h
          · obtain ⟨olds, hold, e1⟩ := Option.map_eq_some_iff.1 h
            simp only [Prod.mk.injEq] at e1
            obtain ⟨rfl, rfl⟩ := e1
            have hform : ∃ a', s' = .slice (some a') len cap := by
              cases hsv with
              | sc _ hs => cases hs
              | sl _ _ _ _ k hk => exact ⟨_, rfl⟩
            obtain ⟨a', rfl⟩ := hform
            have h63 : ((len + m.toNat : Nat) : Int) ≤ 9223372036854775807 := by have : len + m.toNat ≤ (len + m.toNat) * i.bytes := Nat.le_mul_of_pos_right _ hb; omega
            obtain ⟨olds', k1, k2, k3, k4, k5, k6, k7⟩ := srcCells_run (P := P) hR hold hsv
            have hrun := run_append_grow_zeros (P := P) w t tx ty e k0 i z hu htx hi hzz hs hp (some a') len cap olds' k7 k m hm hm2 hmb (by omega) h63 (growslice_fits (by omega) hfit)
            obtain ⟨e1, e2⟩ := hR.grown hN (c := olds ++ zrow z (m.toNat * z.cells.size)) (c' := olds' ++ zrow z (m.toNat * z.cells.size)) (e := e) hc hs hp (by simp [k1]) (by rw [List.length_append, k2, g2, Nat.add_mul]) (grownCap_ge w (len + m.toNat) cap e) (append_lists k1 k3 g3)
            exact ⟨_, _, _, hrun, RMap.set_ext hN _, fun q hq => set_other _ _ _ q hq, e1, e2⟩
          · cases h
        · cases h
  · cases h

theorem aAppend_run (hR : Rel B w0 ρ σ w) {N : Nat} (hN : ρ N = none) {t tx ty : TypeId} {s x s' x' v : Value} {σ' : AS} (h : aAppend P N σ t tx s x = some (v, σ')) (hs : VR ρ s s') (hx : VR ρ x x') :
    WOut P B w0 ρ N v σ' (Builtin.append_ #[t, tx] ty #[s', x']) w := by
  unfold aAppend at h
  split at h
  · rename_i e hu
    obtain ⟨z, hz, g⟩ := Option.bind_eq_some_iff.1 h
    obtain ⟨i, hi, hzz, hc, hsz, hp⟩ := zeroT_spec hz
    obtain ⟨i', hi', g⟩ := Option.bind_eq_some_iff.1 g
    obtain rfl : i = i' := by rw [hi] at hi'; injection hi'
    split at g
    · cases g
    · rename_i hb
      split at g
      · rename_i hint
        obtain ⟨k0, hk0⟩ := isIntT_spec hint
        split at g
        · rename_i k m
          split at g
          · rename_i hm
            rw [hx.int_inv]
            exact appCore_zeros hR hN hu hi hzz hc hsz hp (by omega) hk0 hs hm.1 hm.2.1 hm.2.2 g
          · cases g
        · cases g
      · split at g
        · rename_i hseq
          obtain ⟨n, hn, g⟩ := Option.bind_eq_some_iff.1 g
          obtain ⟨news, hnews, g⟩ := Option.bind_eq_some_iff.1 g
          exact aAppend_seq hR hN hu hi hzz hc hsz hp (by omega) (isSeqT_spec hseq) hs hx hn hnews g
        · cases g
  · cases h

theorem aCopy_run (hR : Rel B w0 ρ σ w) {N : Nat} {t tx ty : TypeId} {d x d' x' v : Value} {σ' : AS} (h : aCopy P σ t tx d x = some (v, σ')) (hd : VR ρ d d') (hx : VR ρ x x') :
    WOut P B w0 ρ N v σ' (Builtin.copy_ #[t, tx] ty #[d', x']) w := by
  unfold aCopy at h
  split at h
  · rename_i e ad dl dc hu
    obtain ⟨size, hsz, g⟩ := Option.bind_eq_some_iff.1 h
    obtain ⟨xl, hxl, g⟩ := Option.bind_eq_some_iff.1 g
    obtain ⟨news, hnews, g⟩ := Option.bind_eq_some_iff.1 g
    obtain ⟨news', g1, g2, g3, g4, g5, g6, g7⟩ := srcCells_run (P := P) hR hnews hx
    have hdl : ∃ a' c', d' = .slice a' dl c' := by cases hd <;> exact ⟨_, _, rfl⟩
    obtain ⟨a', c', rfl⟩ := hdl
    have hlen := lenVal_run (P := P) hxl hx w
    split at g
    · rename_i h0
      simp only [Option.some.injEq, Prod.mk.injEq] at g
      obtain ⟨rfl, rfl⟩ := g
      have e0 : news' = [] := List.eq_nil_of_length_eq_zero (by rw [g1, g2, h0]; simp)
      subst e0
      refine ⟨.int .i64 (0 : Nat), w, ρ, ?_, .refl _, fun _ _ => rfl, .sc _ rfl, hR⟩
      have h0' : Nat.min xl dl = 0 := h0
      rw [h0] at g6
      cases a' <;> simp [Builtin.copy_, run_underlying hu, hlen, h0', run_sizeOf hsz, g6, goInt, storeCells]
    · rename_i h0
      obtain ⟨σ1, hput, e1⟩ := Option.map_eq_some_iff.1 g
      simp only [Prod.mk.injEq] at e1
      obtain ⟨rfl, rfl⟩ := e1
      have hnn : Value.slice a' dl c' ≠ .slice none 0 0 := by
        intro e
        injection e with _ e _
        omega
      obtain ⟨ib, io, in', ic, e1, e2, e3, e4, e5⟩ := aPutAt_run (P := P) hR hput hd hnn (by intro r e; injection e with _ e _; omega) g1.symm g3 g4
      simp only [Value.slice.injEq] at e1
      obtain ⟨rfl, _, _⟩ := e1
      simp only [Nat.zero_mul, Nat.add_zero] at e2 e3 e4 e5
      refine ⟨.int .i64 (min xl dl : Nat), _, ρ, ?_, .refl _, fun _ _ => rfl, .sc _ rfl, e2⟩
      have g6' : (Builtin.firstCells size (Nat.min xl dl) x').run P w = .ok news'.toArray w := g6
      simp only [Builtin.copy_, Sem.run_bind, Array.getElem?_eq_getElem, run_underlying hu, hlen, run_sizeOf hsz, Result.andThen_ok]
      simp [run_underlying hu, hlen, run_sizeOf hsz, g6', e5, goInt]
  · cases h

theorem writeOp_run (hR : Rel B w0 ρ σ w) {a : Env} {b : Act} (hE : ER ρ a b.tmps) {N : Nat} (hN : ρ N = none) {o : Oper} {v : Value} {σ' : AS} (h : writeOp P (aev a) N σ o.op = some (v, σ'))
    (hargs : ∀ c, o.op = .call c → c.args.size = 2 ∧ c.argTypes.size = 2) :
    ∃ v' w' ρ', ((execOp b.eval o).run P w = .ok (.value v') w' ∨ (execOp b.eval o).run P w = .ok .skip w' ∧ v' = undef) ∧ ρ.Ext ρ' ∧ (∀ q, q ≠ N → ρ' q = ρ q) ∧ VR ρ' v v' ∧ Rel B w0 ρ' σ' w' := by
  obtain ⟨dst, op, type, pos, after, guard⟩ := o
  simp only at h hargs
  unfold writeOp at h
  split at h
  · rename_i t x y
    obtain ⟨σ1, h1, e⟩ := Option.map_eq_some_iff.1 h
    simp only [Prod.mk.injEq] at e
    obtain ⟨rfl, rfl⟩ := e
    obtain ⟨w', hr, hR'⟩ := aStore_run (P := P) hR h1 (hE.ev x) (hE.ev y)
    exact ⟨undef, w', ρ, .inr ⟨by simp [execOp, hr], rfl⟩, .refl _, fun _ _ => rfl, .und, hR'⟩
  · rename_i c
    obtain ⟨h2, h3⟩ := hargs c rfl
    obtain ⟨callee, args, ats⟩ := c
    simp only at h h2 h3
    have ha : ∃ x y, args = #[x, y] := ⟨args[0], args[1], by apply Array.ext <;> simp [h2]; intro i hi _; match i, hi with | 0, _ => rfl | 1, _ => rfl⟩
    have ht : ∃ x y, ats = #[x, y] := ⟨ats[0], ats[1], by apply Array.ext <;> simp [h3]; intro i hi _; match i, hi with | 0, _ => rfl | 1, _ => rfl⟩
    obtain ⟨x, y, rfl⟩ := ha
    obtain ⟨t, tx, rfl⟩ := ht
    split at h
    · rename_i e1 e2 e3 e4
      simp at e1 e2 e3 e4
      subst e1 e2 e3 e4
      obtain ⟨v', w', ρ', hr, k1, k2, k3, k4⟩ := aAppend_run (P := P) (ty := type) hR hN h (hE.ev x) (hE.ev y)
      exact ⟨v', w', ρ', .inl (by simp [execOp, resolve, invoke, builtin, hr]), k1, k2, k3, k4⟩
    · rename_i e1 e2 e3 e4
      simp at e1 e2 e3 e4
      subst e1 e2 e3 e4
      obtain ⟨v', w', ρ', hr, k1, k2, k3, k4⟩ := aCopy_run (P := P) (ty := type) (N := N) hR h (hE.ev x) (hE.ev y)
      exact ⟨v', w', ρ', .inl (by simp [execOp, resolve, invoke, builtin, hr]), k1, k2, k3, k4⟩
    · cases h
  · cases h

end

end Go.Corb

/- The abstract machine, part 13: the effect of one operation; its frame. Conditions: none. -/
set_option linter.unusedVariables false
set_option linter.unusedSimpArgs false
namespace Go.Corb
open Go Go.RowKit
variable (P : Program)

abbrev CallRel := FuncId → List Value → AS → Value → AS → Prop

inductive Kind where
  | p | r | a | w | c
  deriving DecidableEq

def kindOf : Op → Kind
  | .load _ _ => .r
  | .convert src dst _ => match P.underlying src, P.underlying dst with
    | some (.slice _), some .string => .r
    | some .string, some (.slice _) => .a
    | _, _ => .p
  | .alloc _ => .a
  | .box _ _ => .a
  | .buildSlice _ _ _ => .a
  | .makeSlice _ _ _ => .a
  | .store _ _ _ => .w
  | .call c => match c.callee with
    | .builtin .append => if c.args.size = 2 ∧ c.argTypes.size = 2 then .w else .p
    | .builtin .copy => if c.args.size = 2 ∧ c.argTypes.size = 2 then .w else .p
    | .builtin _ => .p
    | .value _ => .c
    | .invoke _ _ => .c
  | _ => .p

def opCallee (ev : Operand → Value) : Op → Option (FuncId × List Value)
  | .call c => match c.callee with
    | .value g => match ev g with
      | .func (.func f) _ cs => some (f, c.args.toList.map ev ++ cs.toList)
      | _ => none
    | _ => none
  | _ => none

def Eff (C : CallRel) (a : Env) (N : Nat) (σ : AS) (o : Op) (v : Value) (σ' : AS) (rd : List Nat) : Prop :=
  match kindOf P o with
  | .p => pureOp P (aev a) o = some v ∧ σ' = σ ∧ rd = []
  | .r => readOp P (aev a) σ o = some (v, rd) ∧ σ' = σ
  | .a => ∃ c, allocOp P (aev a) N o = some (v, c) ∧ σ' = σ.put N (.cells c false) ∧ rd = []
  | .w => writeOp P (aev a) N σ o = some (v, σ') ∧ rd = []
  | .c => ∃ f args, opCallee (aev a) o = some (f, args) ∧ C f args σ v σ' ∧ rd = []

/-- More memory beside. -/
def AS.ext (σ : AS) (X : Nat → Option AObj) (p : Nat → Bool) : AS :=
  { heap := fun r => match σ.heap r with
      | some o => some o
      | none => X r
    next := σ.next
    prot := p }

def Beside (X : Nat → Option AObj) (σ : AS) : Prop := ∀ r, X r ≠ none → σ.heap r = none

theorem ext_some {σ : AS} {X : Nat → Option AObj} {p : Nat → Bool} {r : Nat} {o : AObj} (h : σ.heap r = some o) : (σ.ext X p).heap r = some o := by simp [AS.ext, h]

theorem Beside.free {X : Nat → Option AObj} {σ : AS} (h : Beside X σ) {r : Nat} {o : AObj} (hr : σ.heap r = some o) : X r = none := by
  cases e : X r with
  | none => rfl
  | some u => have := h r (by simp [e]); rw [hr] at this; cases this

theorem ext_put {σ : AS} {X : Nat → Option AObj} {p : Nat → Bool} (N : Nat) (o : AObj) : (σ.ext X p).put N o = (σ.put N o).ext X p := by
  simp only [AS.ext, AS.put, AS.mk.injEq, and_true]
  funext q
  by_cases h : q = N
  · simp [h]
  · simp [h]

theorem ext_del {σ : AS} {X : Nat → Option AObj} {p : Nat → Bool} {r : Nat} (h : X r = none) : (σ.ext X p).del r = (σ.del r).ext X p := by
  simp only [AS.ext, AS.del, AS.mk.injEq, and_true]
  funext q
  by_cases e : q = r
  · subst e; simp [h]
  · simp [e]

theorem Beside.put {X : Nat → Option AObj} {σ : AS} (h : Beside X σ) {N : Nat} (hN : X N = none) (o : AObj) : Beside X (σ.put N o) := by
  intro r hr
  have hne : r ≠ N := fun e => hr (e ▸ hN)
  simp only [AS.put, if_neg hne]
  exact h r hr

theorem Beside.del {X : Nat → Option AObj} {σ : AS} (h : Beside X σ) (q : Nat) : Beside X (σ.del q) := by
  intro r hr
  simp only [AS.del]
  split
  · rfl
  · exact h r hr

/-- How one operation, or a call, treats the memory. lo: names from here on may be new ones. -/
structure Frames (N : Nat → Prop) (σ σ' : AS) : Prop where
  prot : σ'.prot = σ.prot
  next : σ.next ≤ σ'.next
  keep : ∀ r, σ.prot r = true → σ.heap r ≠ none → σ'.heap r = σ.heap r
  old : ∀ r, ¬ N r → σ.heap r = none → σ'.heap r = none

section
variable {P} {σ : AS} {X : Nat → Option AObj} {p : Nat → Bool}

theorem readOp_ext {a : Env} {o : Op} {v : Value} {rd : List Nat} (h : readOp P (aev a) σ o = some (v, rd)) : readOp P (aev a) (σ.ext X p) o = some (v, rd) := by
  unfold readOp at h ⊢
  split at h
  · split at h
    · rename_i r o hx
      try simp only [hx]
      split at h
      · rename_i c ro hr
        simp only [ext_some hr]
        exact h
      · cases h
    · cases h
  · split at h
    · rename_i e hs hd
      try simp only [hs, hd]
      split at h
      · rename_i he
        try simp only [he]
        split at h
        · rename_i hx
          (try simp only [hx]); exact h
        · rename_i r o sp len cap hx
          try simp only [hx]
          split at h
          · rename_i h0
            rw [if_pos h0]; exact h
          · rename_i h0
            rw [if_neg h0]
            split at h
            · rename_i c ro hr
              simp only [ext_some hr]; exact h
            · cases h
        · cases h
      · cases h
    · cases h
  · cases h

theorem readOp_rd {a : Env} {o : Op} {v : Value} {rd : List Nat} (h : readOp P (aev a) σ o = some (v, rd)) : ∀ r ∈ rd, σ.heap r ≠ none := by
  unfold readOp at h
  split at h
  · split at h
    · split at h
      · rename_i c ro hr
        obtain ⟨v0, _, e⟩ := Option.map_eq_some_iff.1 h
        simp only [Prod.mk.injEq] at e
        obtain ⟨_, rfl⟩ := e
        intro r hm
        simp only [List.mem_singleton] at hm
        subst hm
        rw [hr]; simp
      · cases h
    · cases h
  · split at h
    · split at h
      · split at h
        · simp only [Option.some.injEq, Prod.mk.injEq] at h
          obtain ⟨_, rfl⟩ := h
          simp
        · split at h
          · simp only [Option.some.injEq, Prod.mk.injEq] at h
            obtain ⟨_, rfl⟩ := h
            simp
          · split at h
            · rename_i c ro hr
              split at h
              · obtain ⟨v0, _, e⟩ := Option.map_eq_some_iff.1 h
                simp only [Prod.mk.injEq] at e
                obtain ⟨_, rfl⟩ := e
                intro r hm
                simp only [List.mem_singleton] at hm
                subst hm
                rw [hr]; simp
              · cases h
            · cases h
        · cases h
      · cases h
    · cases h
  · cases h

/-- A read depends on what it tells to have read, alone. -/
theorem readOp_same {a : Env} {o : Op} {v : Value} {rd : List Nat} {τ : AS} (h : readOp P (aev a) σ o = some (v, rd)) (hs : ∀ r ∈ rd, τ.heap r = σ.heap r) : readOp P (aev a) τ o = some (v, rd) := by
  unfold readOp at h ⊢
  split at h
  · split at h
    · rename_i r o hx
      try simp only [hx]
      split at h
      · rename_i c ro hr
        have hm : r ∈ rd := by
          obtain ⟨v0, _, e⟩ := Option.map_eq_some_iff.1 h
          simp only [Prod.mk.injEq] at e
          simp [← e.2]
        simp only [hs r hm, hr]
        exact h
      · cases h
    · cases h
  · split at h
    · rename_i e hs' hd
      try simp only [hs', hd]
      split at h
      · rename_i he
        try simp only [he]
        split at h
        · rename_i hx
          (try simp only [hx]); exact h
        · rename_i r o sp len cap hx
          try simp only [hx]
          split at h
          · rename_i h0
            rw [if_pos h0]; exact h
          · rename_i h0
            rw [if_neg h0]
            split at h
            · rename_i c ro hr
              have hm : r ∈ rd := by
                split at h
                · obtain ⟨v0, _, e⟩ := Option.map_eq_some_iff.1 h
                  simp only [Prod.mk.injEq] at e
                  simp [← e.2]
                · cases h
              simp only [hs r hm, hr]; exact h
            · cases h
        · cases h
      · cases h
    · cases h
  · cases h

theorem srcCells_ext {size n : Nat} {x : Value} {l : List Value} (h : srcCells σ size n x = some l) : srcCells (σ.ext X p) size n x = some l := by
  unfold srcCells at h ⊢
  split at h
  · exact h
  · try simp only
    split at h
    · rename_i h0
      rw [if_pos h0]; exact h
    · rename_i h0
      rw [if_neg h0]
      split at h
      · cases h
      · rename_i h1
        rw [if_neg h1]
        split at h
        · rename_i c ro hr
          simp only [ext_some hr]; exact h
        · cases h
  · exact h
  · cases h

theorem aPutAt_ext {size k : Nat} {x : Value} {news : List Value} {σ' : AS} (h : aPutAt σ size x k news = some σ') (hX : Beside X σ) (hp : ∀ r, p r = true → σ.prot r = true) :
    aPutAt (σ.ext X p) size x k news = some (σ'.ext X p) ∧ Beside X σ' ∧ Frames (fun _ => False) σ σ' := by
  unfold aPutAt at h ⊢
  split at h
  · rename_i r o sp len cap
    split at h
    · rename_i c hr
      split at h
      · rename_i hc
        injection h with h
        subst h
        have hpr : p r = false := by cases e : p r with | false => rfl | true => rw [hp r e] at hc; exact absurd hc.1 (by simp)
        refine ⟨?_, hX.put (hX.free hr) _, rfl, Nat.le_refl _, ?_, ?_⟩
        · simp only [ext_some hr]
          rw [if_pos ⟨hpr, hc.2⟩, ext_put]
        · intro q hq _
          have : q ≠ r := fun e => by subst e; rw [hq] at hc; exact absurd hc.1 (by simp)
          simp [AS.put, this]
        · intro q _ hq
          have : q ≠ r := fun e => by subst e; rw [hr] at hq; cases hq
          simpa [AS.put, this] using hq
      · cases h
    · cases h
  · cases h

theorem aPutAt_next {size k : Nat} {x : Value} {news : List Value} {σ' : AS} (h : aPutAt σ size x k news = some σ') : σ'.next = σ.next := by
  unfold aPutAt at h
  split at h
  · split at h
    · split at h
      · injection h with h; subst h; rfl
      · cases h
    · cases h
  · cases h

theorem aStore_next {t : TypeId} {x v : Value} {σ' : AS} (h : aStore P σ t x v = some σ') : σ'.next = σ.next := by
  unfold aStore at h
  split at h
  · split at h
    · split at h
      · injection h with h; subst h; rfl
      · cases h
    · cases h
  · cases h

theorem aStore_ext {t : TypeId} {x v : Value} {σ' : AS} (h : aStore P σ t x v = some σ') (hX : Beside X σ) (hp : ∀ r, p r = true → σ.prot r = true) :
    aStore P (σ.ext X p) t x v = some (σ'.ext X p) ∧ Beside X σ' ∧ Frames (fun _ => False) σ σ' := by
  unfold aStore at h ⊢
  split at h
  · rename_i r o
    split at h
    · rename_i c hr
      split at h
      · rename_i hc
        injection h with h
        subst h
        have hpr : p r = false := by cases e : p r with | false => rfl | true => rw [hp r e] at hc; exact absurd hc.1 (by simp)
        refine ⟨?_, hX.put (hX.free hr) _, rfl, Nat.le_refl _, ?_, ?_⟩
        · simp only [ext_some hr]
          rw [if_pos ⟨hpr, hc.2⟩, ext_put]
        · intro q hq _
          have : q ≠ r := fun e => by subst e; rw [hq] at hc; exact absurd hc.1 (by simp)
          simp [AS.put, this]
        · intro q _ hq
          have : q ≠ r := fun e => by subst e; rw [hr] at hq; cases hq
          simpa [AS.put, this] using hq
      · cases h
    · cases h
  · cases h

theorem Frames.refl (N : Nat → Prop) (σ : AS) : Frames N σ σ := ⟨rfl, Nat.le_refl _, fun _ _ _ => rfl, fun _ _ h => h⟩
theorem Frames.weak {N M : Nat → Prop} {σ σ' : AS} (h : Frames N σ σ') (hs : ∀ r, N r → M r) : Frames M σ σ' := ⟨h.prot, h.next, h.keep, fun r hr => h.old r (fun k => hr (hs r k))⟩

theorem Frames.put {N : Nat} {σ : AS} (o : AObj) (hN : σ.heap N = none) : Frames (· = N) σ (σ.put N o) :=
  ⟨rfl, Nat.le_refl _, fun q _ hq => by
    have : q ≠ N := fun e => by subst e; exact hq hN
    simp [AS.put, this], fun q hq h => by simpa [AS.put, hq] using h⟩

theorem appCore_ext {N size bytes n : Nat} {news : List Value} {zeros : Bool} {s v : Value} {σ' : AS} (h : appCore σ N size bytes n news zeros s = some (v, σ')) (hX : Beside X σ) (hXN : X N = none) (hN : σ.heap N = none)
    (hp : ∀ r, p r = true → σ.prot r = true) : appCore (σ.ext X p) N size bytes n news zeros s = some (v, σ'.ext X p) ∧ Beside X σ' ∧ Frames (· = N) σ σ' ∧ σ'.next = σ.next := by
  unfold appCore at h ⊢
  split at h
  · try simp only
    split at h
    · rename_i h0
      rw [if_pos h0]
      split at h
      · cases h
      · rename_i hz
        rw [if_neg hz]
        simp only [Option.some.injEq, Prod.mk.injEq] at h
        obtain ⟨rfl, rfl⟩ := h
        exact ⟨rfl, hX, .refl _ _, rfl⟩
    · rename_i h0
      rw [if_neg h0]
      split at h
      · rename_i h1
        rw [if_pos h1]
        simp only [Option.some.injEq, Prod.mk.injEq] at h
        obtain ⟨rfl, rfl⟩ := h
        exact ⟨by rw [ext_put], hX.put hXN _, .put _ hN, rfl⟩
      · cases h
  · rename_i r o sp len cap
    try simp only
    split at h
    · cases h
    · rename_i h1
      rw [if_neg h1]
      split at h
      · rename_i h2
        rw [if_pos h2]
        split at h
        · cases h
        · rename_i hz
          rw [if_neg hz]
          split at h
          · rename_i h3
            rw [if_pos h3]
            simp only [Option.some.injEq, Prod.mk.injEq] at h
            obtain ⟨rfl, rfl⟩ := h
            exact ⟨rfl, hX, .refl _ _, rfl⟩
          · rename_i h3
            rw [if_neg h3]
            obtain ⟨σ1, hput, e1⟩ := Option.map_eq_some_iff.1 h
            simp only [Prod.mk.injEq] at e1
            obtain ⟨rfl, rfl⟩ := e1
            obtain ⟨k1, k2, k3⟩ := aPutAt_ext hput hX hp
            refine ⟨by rw [k1]; rfl, k2, k3.weak (fun _ h => h.elim), ?_⟩
            exact aPutAt_next hput
      · rename_i h2
        rw [if_neg h2]
        split at h
        · rename_i h3
          rw [if_pos h3]
          split at h
          · obtain ⟨olds, hold, e1⟩ := Option.map_eq_some_iff.1 h
            simp only [Prod.mk.injEq] at e1
            obtain ⟨rfl, rfl⟩ := e1
            simp only [srcCells_ext hold]
            exact ⟨by simp only [Option.map_some]; rw [ext_put], hX.put hXN _, .put _ hN, rfl⟩
          · split at h
            · cases h
            · rename_i hz
              rw [if_neg hz]
              split at h
              · rename_i c hr
                simp only [ext_some hr]
                split at h
                · rename_i hc
                  have hpr : p r = false := by cases e : p r with | false => rfl | true => rw [hp r e] at hc; exact absurd hc.1 (by simp)
                  simp only [Option.some.injEq, Prod.mk.injEq] at h
                  obtain ⟨rfl, rfl⟩ := h
                  rw [if_pos ⟨hpr, hc.2⟩]
                  refine ⟨by rw [ext_del (hX.free hr), ext_put], (hX.del r).put hXN _, ⟨rfl, Nat.le_refl _, ?_, ?_⟩, rfl⟩
                  · intro q hq hne
                    have h1 : q ≠ r := fun e => by subst e; rw [hq] at hc; exact absurd hc.1 (by simp)
                    have h2 : q ≠ N := fun e => by subst e; exact hne hN
                    simp [AS.put, AS.del, h1, h2]
                  · intro q hq h0
                    simp only [AS.put, AS.del, if_neg hq]
                    split
                    · rfl
                    · exact h0
                · cases h
              · cases h
        · cases h
  · cases h

theorem aAppend_ext {N : Nat} {t tx : TypeId} {s x v : Value} {σ' : AS} (h : aAppend P N σ t tx s x = some (v, σ')) (hX : Beside X σ) (hXN : X N = none) (hN : σ.heap N = none)
    (hp : ∀ r, p r = true → σ.prot r = true) : aAppend P N (σ.ext X p) t tx s x = some (v, σ'.ext X p) ∧ Beside X σ' ∧ Frames (· = N) σ σ' ∧ σ'.next = σ.next := by
  unfold aAppend at h ⊢
  split at h
  · rename_i e hu
    obtain ⟨z, hz, g⟩ := Option.bind_eq_some_iff.1 h
    obtain ⟨i, hi, g⟩ := Option.bind_eq_some_iff.1 g
    try simp only [hu]
    simp only [hz, hi, Option.bind_some]
    split at g
    · cases g
    · rename_i hb
      rw [if_neg hb]
      split at g
      · rename_i hint
        rw [if_pos hint]
        split at g
        · split at g
          · rename_i hm
            try simp only
            rw [if_pos hm]
            exact appCore_ext g hX hXN hN hp
          · cases g
        · cases g
      · rename_i hint
        rw [if_neg hint]
        split at g
        · rename_i hseq
          rw [if_pos hseq]
          obtain ⟨n, hn, g⟩ := Option.bind_eq_some_iff.1 g
          obtain ⟨news, hnews, g⟩ := Option.bind_eq_some_iff.1 g
          simp only [hn, Option.bind_some, srcCells_ext hnews]
          exact appCore_ext g hX hXN hN hp
        · cases g
  · cases h

theorem aCopy_ext {t tx : TypeId} {d x v : Value} {σ' : AS} (h : aCopy P σ t tx d x = some (v, σ')) (hX : Beside X σ)
    (hp : ∀ r, p r = true → σ.prot r = true) : aCopy P (σ.ext X p) t tx d x = some (v, σ'.ext X p) ∧ Beside X σ' ∧ Frames (fun _ => False) σ σ' ∧ σ'.next = σ.next := by
  unfold aCopy at h ⊢
  split at h
  · rename_i e ad dl dc hu
    obtain ⟨size, hsz, g⟩ := Option.bind_eq_some_iff.1 h
    obtain ⟨xl, hxl, g⟩ := Option.bind_eq_some_iff.1 g
    obtain ⟨news, hnews, g⟩ := Option.bind_eq_some_iff.1 g
    try simp only [hu]
    simp only [hsz, hxl, Option.bind_some, srcCells_ext hnews]
    split at g
    · rename_i h0
      rw [if_pos h0]
      simp only [Option.some.injEq, Prod.mk.injEq] at g
      obtain ⟨rfl, rfl⟩ := g
      exact ⟨rfl, hX, .refl _ _, rfl⟩
    · rename_i h0
      rw [if_neg h0]
      obtain ⟨σ1, hput, e1⟩ := Option.map_eq_some_iff.1 g
      simp only [Prod.mk.injEq] at e1
      obtain ⟨rfl, rfl⟩ := e1
      obtain ⟨k1, k2, k3⟩ := aPutAt_ext hput hX hp
      exact ⟨by rw [k1]; rfl, k2, k3, aPutAt_next hput⟩
  · cases h

theorem writeOp_ext {a : Env} {N : Nat} {o : Op} {v : Value} {σ' : AS} (h : writeOp P (aev a) N σ o = some (v, σ')) (hX : Beside X σ) (hXN : X N = none) (hN : σ.heap N = none)
    (hp : ∀ r, p r = true → σ.prot r = true) : writeOp P (aev a) N (σ.ext X p) o = some (v, σ'.ext X p) ∧ Beside X σ' ∧ Frames (· = N) σ σ' ∧ σ'.next = σ.next := by
  unfold writeOp at h ⊢
  split at h
  · obtain ⟨σ1, h1, e⟩ := Option.map_eq_some_iff.1 h
    simp only [Prod.mk.injEq] at e
    obtain ⟨rfl, rfl⟩ := e
    obtain ⟨k1, k2, k3⟩ := aStore_ext h1 hX hp
    exact ⟨by simp only [k1]; rfl, k2, k3.weak (fun _ h => h.elim), aStore_next h1⟩
  · split at h
    · rename_i e1 e2 e3 e4 e5
      try simp only [e1, e2, e3, e4, e5]
      exact aAppend_ext h hX hXN hN hp
    · rename_i e1 e2 e3 e4 e5
      try simp only [e1, e2, e3, e4, e5]
      obtain ⟨k1, k2, k3, k4⟩ := aCopy_ext h hX hp
      exact ⟨k1, k2, k3.weak (fun _ h => h.elim), k4⟩
    · cases h
  · cases h

end

end Go.Corb

/- The abstract machine, part 14: steps of a region; two that nothing orders change places. Conditions: none. -/
set_option linter.unusedVariables false
set_option linter.unusedSimpArgs false
namespace Go.Corb
open Go Go.RowKit
variable (P : Program)

def AS.wf (σ : AS) : Prop := ∀ r, σ.next ≤ r → σ.heap r = none
def AS.wp (σ : AS) (p : Nat → Bool) : AS := { σ with prot := p }

theorem wp_ext (σ : AS) (p : Nat → Bool) : σ.wp p = σ.ext (fun _ => none) p := by
  simp only [AS.wp, AS.ext, AS.mk.injEq, and_true]
  funext r
  split <;> simp_all

structure CProp (C : CallRel) : Prop where
  frames : ∀ {f args σ v σ'}, C f args σ v σ' → σ.wf → Frames (fun r => σ.next ≤ r) σ σ' ∧ σ'.wf
  ext : ∀ {f args σ v σ' X p}, C f args σ v σ' → σ.wf → Beside X σ → (∀ r, X r ≠ none → r < σ.next) → (∀ r, p r = true → σ.prot r = true) → C f args (σ.ext X p) v (σ'.ext X p)

section
variable {P} {C : CallRel}

/-! ### what an operation looks at -/
theorem aev_put {a : Env} {dst : Option Tmp} {v : Value} {x : Operand} (h : ∀ d, dst = some d → x ≠ .tmp d) : aev (Env.put a dst v) x = aev a x := by
  cases dst with
  | none => rfl
  | some d =>
    cases x with
    | tmp t =>
      have hne : d ≠ t := fun e => h d rfl (e ▸ rfl)
      simp only [aev, Env.put, getD_setIfInBounds]
      rw [if_neg (fun h => hne h.1)]
    | _ => rfl

theorem put_comm (a : Env) {x y : Option Tmp} (v u : Value) (h : ∀ d, x = some d → y ≠ some d) : Env.put (Env.put a x v) y u = Env.put (Env.put a y u) x v := by
  cases x with
  | none => rfl
  | some d =>
    cases y with
    | none => rfl
    | some e =>
      have hne : d ≠ e := fun he => h d rfl (he ▸ rfl)
      simp [Env.put, Array.setIfInBounds_comm _ _ hne]

theorem parts_congr {a a' : Env} {ps : Array (Nat × Operand)} (h : ∀ x ∈ (ps.toList.map (·.2)).toArray, aev a x = aev a' x) :
    (ps.toList.map fun p => (p.1, aev a p.2)) = (ps.toList.map fun p => (p.1, aev a' p.2)) := by
  apply List.map_congr_left
  intro p hp
  rw [h p.2 (by simp; exact ⟨p.1, by simpa using hp⟩)]

theorem eff_congr {a a' : Env} {N : Nat} {σ σ' : AS} {o : Op} {v : Value} {rd : List Nat} (h : ∀ x ∈ o.operands, aev a x = aev a' x) (he : Eff P C a N σ o v σ' rd) : Eff P C a' N σ o v σ' rd := by
  have call : ∀ c, o = .call c → (c.args.toList.map (aev a) = c.args.toList.map (aev a')) ∧ (∀ x, x ∈ c.args → aev a x = aev a' x) ∧ ∀ g, c.callee = .value g → aev a g = aev a' g := by
    intro c hc
    subst hc
    refine ⟨List.map_congr_left fun x hx => h x (by simp [Op.operands, Call.operands]; exact .inr (by simpa using hx)), fun x hx => h x (by simp [Op.operands, Call.operands]; exact .inr hx), fun g hg => h g (by simp [Op.operands, Call.operands, hg])⟩
  have e1 : pureOp P (aev a) o = pureOp P (aev a') o := by
    cases o <;> simp only [Op.operands] at h <;> simp only [pureOp]
    case build t ps => rw [parts_congr h]
    case makeFunc fn first captured =>
      rw [Array.map_congr_left (xs := captured) fun x hx => h x (by simp [hx])]
    case slice t x lo hi mx => cases lo <;> cases hi <;> cases mx <;> simp_all
    case call c =>
      obtain ⟨k1, k2, k3⟩ := call c rfl
      obtain ⟨callee, args, ats⟩ := c
      simp only at k1 k2 ⊢
      cases callee <;> try rfl
      rename_i b
      cases b <;> try rfl
      all_goals
        first
          | (rw [k1]; done)
          | (cases hq : args[0]? with
             | none => cases ats[0]? <;> rfl
             | some x =>
               have e := k2 x (Array.mem_of_getElem? hq)
               cases ats[0]? with
               | none => rfl
               | some t => simp only [e])
    all_goals (first | rfl | (simp_all; done))
  have e2 : readOp P (aev a) σ o = readOp P (aev a') σ o := by
    cases o <;> simp only [Op.operands] at h <;> simp only [readOp]
    all_goals (first | rfl | (simp_all; done))
  have e3 : allocOp P (aev a) N o = allocOp P (aev a') N o := by
    cases o <;> simp only [Op.operands] at h <;> simp only [allocOp]
    case buildSlice t n ps => rw [parts_congr h]
    all_goals (first | rfl | (simp_all; done))
  have e4 : writeOp P (aev a) N σ o = writeOp P (aev a') N σ o := by
    cases o <;> simp only [Op.operands] at h <;> simp only [writeOp]
    case call c =>
      obtain ⟨k1, k2, k3⟩ := call c rfl
      obtain ⟨callee, args, ats⟩ := c
      simp only at k1 k2 ⊢
      cases callee <;> try rfl
      rename_i b
      cases b <;> try rfl
      all_goals
        cases ats[0]? <;> cases ats[1]? <;> cases h0 : args[0]? <;> cases h1 : args[1]? <;>
          first | rfl | simp only [k2 _ (Array.mem_of_getElem? h0), k2 _ (Array.mem_of_getElem? h1)]
    all_goals (first | rfl | (simp_all; done))
  have e5 : opCallee (aev a) o = opCallee (aev a') o := by
    cases o <;> simp only [opCallee]
    case call c =>
      obtain ⟨k1, k2, k3⟩ := call c rfl
      obtain ⟨callee, args, ats⟩ := c
      simp only at k1 k2 k3 ⊢
      cases callee <;> try rfl
      rename_i g
      simp only [k3 g rfl, k1]
  unfold Eff at he ⊢
  split at he <;> simp_all

/-! ### frames of an effect -/
theorem eff_frames {a : Env} {N : Nat} {σ σ' : AS} {o : Op} {v : Value} {rd : List Nat} (hC : CProp C) (he : Eff P C a N σ o v σ' rd) (hwf : σ.wf) (hN : N < σ.next) (h0 : σ.heap N = none) :
    Frames (fun r => r = N ∨ σ.next ≤ r) σ σ' ∧ σ'.wf := by
  unfold Eff at he
  split at he
  · obtain ⟨_, rfl, _⟩ := he; exact ⟨.refl _ _, hwf⟩
  · obtain ⟨_, rfl⟩ := he; exact ⟨.refl _ _, hwf⟩
  · obtain ⟨c, _, rfl, _⟩ := he
    refine ⟨(Frames.put _ h0).weak fun r h => .inl h, fun r hr => ?_⟩
    have : r ≠ N := by have : σ.next ≤ r := hr; omega
    simp only [AS.put, if_neg this]
    exact hwf r hr
  · obtain ⟨h, _⟩ := he
    obtain ⟨_, _, k3, k4⟩ := writeOp_ext (X := fun _ => none) (p := σ.prot) h (fun r hr => absurd rfl hr) rfl h0 (fun _ h => h)
    refine ⟨k3.weak fun r h => .inl h, fun r hr => k3.old r (by rw [k4] at hr; omega) (hwf r (by rw [k4] at hr; exact hr))⟩
  · obtain ⟨f, args, _, h, _⟩ := he
    obtain ⟨k1, k2⟩ := hC.frames h hwf
    exact ⟨k1.weak fun r h => .inr h, k2⟩

theorem eff_ext {a : Env} {N : Nat} {σ σ' : AS} {o : Op} {v : Value} {rd : List Nat} {X : Nat → Option AObj} {p : Nat → Bool} (hC : CProp C) (he : Eff P C a N σ o v σ' rd) (hwf : σ.wf) (h0 : σ.heap N = none)
    (hX : Beside X σ) (hlt : ∀ r, X r ≠ none → r < σ.next) (hXN : X N = none) (hp : ∀ r, p r = true → σ.prot r = true) : Eff P C a N (σ.ext X p) o v (σ'.ext X p) rd := by
  unfold Eff at he ⊢
  split at he
  · obtain ⟨h, rfl, h2⟩ := he; exact ⟨h, rfl, h2⟩
  · obtain ⟨h, rfl⟩ := he; exact ⟨readOp_ext h, rfl⟩
  · obtain ⟨c, h, rfl, h2⟩ := he
    exact ⟨c, h, by rw [ext_put], h2⟩
  · obtain ⟨h, h2⟩ := he
    exact ⟨(writeOp_ext h hX hXN h0 hp).1, h2⟩
  · obtain ⟨f, args, h1, h, h2⟩ := he
    exact ⟨f, args, h1, hC.ext h hwf hX hlt hp, h2⟩

theorem eff_rd {a : Env} {N : Nat} {σ σ' : AS} {o : Op} {v : Value} {rd : List Nat} (he : Eff P C a N σ o v σ' rd) (hk : kindOf P o ≠ .r) : rd = [] := by
  unfold Eff at he
  split at he
  · exact he.2.2
  · rename_i h; exact absurd h hk
  · exact he.choose_spec.2.2
  · exact he.2
  · obtain ⟨f, args, _, _, h⟩ := he; exact h
end

end Go.Corb

/- The abstract machine, part 15: steps of a region; two that nothing orders change places. Conditions: none. -/
set_option linter.unusedVariables false
set_option linter.unusedSimpArgs false
namespace Go.Corb
open Go Go.RowKit
variable (P : Program)

structure RS where
  a : Env
  σ : AS
  rd : Nat → Nat → Bool

def protOf (U : Nat → Nat → Bool) (n k : Nat) (s : RS) : Nat → Bool := fun r => s.σ.prot r || (List.range n).any fun x => U k x && s.rd x r

def guardKnown (ops : Array Oper) (a : Env) (o : Oper) : Prop :=
  ∀ j b, o.guard = some (j, b) → ∀ d, (ops[j]?).bind (·.dst) = some d → a.getD d undef ≠ top

def Step (C : CallRel) (ops : Array Oper) (N : Nat) (U : Nat → Nat → Bool) (k : Nat) (s s' : RS) : Prop :=
  ∃ o, ops[k]? = some o ∧ guardKnown ops s.a o ∧
    ((Region.wanted o (yielded ops s.a) = true ∧ ∃ v σ1 rd, Eff P C s.a (N + k) (s.σ.wp (protOf U ops.size k s)) o.op v σ1 rd ∧
        s' = ⟨Env.put s.a o.dst v, σ1.wp s.σ.prot, fun x => if x = k then (fun r => rd.contains r) else s.rd x⟩) ∨
     (Region.wanted o (yielded ops s.a) = false ∧ s' = ⟨Env.put s.a o.dst undef, s.σ, s.rd⟩))

inductive Steps' (C : CallRel) (ops : Array Oper) (N : Nat) (U : Nat → Nat → Bool) : List Nat → RS → RS → Prop
  | nil (s : RS) : Steps' C ops N U [] s s
  | cons {k : Nat} {l : List Nat} {s s1 s2 : RS} (h : Step P C ops N U k s s1) (t : Steps' C ops N U l s1 s2) : Steps' C ops N U (k :: l) s s2

/-- What is known of the memory while the operations of l are still to come. -/
structure Fresh (n N : Nat) (l : List Nat) (s : RS) : Prop where
  wf : s.σ.wf
  room : N + n ≤ s.σ.next
  free : ∀ k ∈ l, s.σ.heap (N + k) = none
  rd : ∀ k ∈ l, s.rd k = fun _ => false
  lt : ∀ k ∈ l, k < n

/-- May x, which stands first, and y change places? -/
def swapOK (ops : Array Oper) (U : Nat → Nat → Bool) (x y : Nat) : Bool :=
  match ops[x]?, ops[y]? with
  | some ox, some oy => ox.apart ops oy && !(U x y) && (match kindOf P ox.op, kindOf P oy.op with
    | .p, _ => true
    | _, .p => true
    | .r, .r => true
    | .r, .a => true
    | .a, .a => true
    | .r, .w => U y x
    | .r, .c => U y x
    | .w, .a => true
    | .c, .a => true
    | _, _ => false)
  | _, _ => false

section
variable {P} {C : CallRel} {ops : Array Oper} {N : Nat} {U : Nat → Nat → Bool}

theorem yielded_put {a : Env} {d : Option Tmp} {v : Value} {j : Nat} (h : ∀ e, d = some e → (ops[j]?).bind (·.dst) ≠ some e) : yielded ops (Env.put a d v) j = yielded ops a j := by
  cases d with
  | none => rfl
  | some e =>
    unfold yielded
    cases ht : (ops[j]?).bind (·.dst) with
    | none => rfl
    | some t =>
      have hne : e ≠ t := fun q => h e rfl (by rw [ht, q])
      simp [Env.put, Array.getElem?_setIfInBounds_ne hne]

theorem wanted_put' {a : Env} {d : Option Tmp} {v : Value} {o : Oper} (h : ∀ e, d = some e → e ∉ o.looksAt ops) : Region.wanted o (yielded ops (Env.put a d v)) = Region.wanted o (yielded ops a) := by
  unfold Region.wanted
  cases hg : o.guard with
  | none => rfl
  | some q =>
    obtain ⟨j, want⟩ := q
    simp only
    rw [yielded_put]
    intro e he hd
    apply h e he
    simp [Oper.looksAt, hg, hd]

theorem guard_put {a : Env} {d : Option Tmp} {v : Value} {o : Oper} (h : ∀ e, d = some e → e ∉ o.looksAt ops) : guardKnown ops (Env.put a d v) o ↔ guardKnown ops a o := by
  unfold guardKnown
  have : ∀ j b, o.guard = some (j, b) → ∀ t, (ops[j]?).bind (·.dst) = some t → (Env.put a d v).getD t undef = a.getD t undef := by
    intro j b hg t ht
    cases d with
    | none => rfl
    | some e =>
      have hne : e ≠ t := fun q => h e rfl (by subst q; simp [Oper.looksAt, hg, ht])
      simp only [Env.put, getD_setIfInBounds]
      rw [if_neg (fun q => hne q.1)]
  constructor
  · intro hh j b hg t ht
    rw [← this j b hg t ht]
    exact hh j b hg t ht
  · intro hh j b hg t ht
    rw [this j b hg t ht]
    exact hh j b hg t ht

theorem eff_put {a : Env} {d : Option Tmp} {u : Value} {M : Nat} {σ σ' : AS} {o : Oper} {v : Value} {rd : List Nat} (h : ∀ e, d = some e → e ∉ o.looksAt ops) :
    Eff P C (Env.put a d u) M σ o.op v σ' rd ↔ Eff P C a M σ o.op v σ' rd := by
  have k : ∀ x ∈ o.op.operands, aev (Env.put a d u) x = aev a x := fun x hx => aev_put fun e he hxe => h e he (by
    subst hxe
    exact List.mem_append_left _ (List.mem_filterMap.2 ⟨.tmp e, by simpa using hx, rfl⟩))
  exact ⟨eff_congr k, eff_congr fun x hx => (k x hx).symm⟩

theorem single_ext {σ : AS} {M : Nat} {o : AObj} {p : Nat → Bool} (h : σ.heap M = none) : σ.ext (fun q => if q = M then some o else none) p = (σ.put M o).wp p := by
  simp only [AS.ext, AS.put, AS.wp, AS.mk.injEq, and_true]
  funext q
  by_cases e : q = M
  · subst e; simp [h]
  · simp [e]; cases σ.heap q <;> rfl

/-- The memory's part of the change of places. -/
theorem eff_swap (hC : CProp C) {a : Env} {σ σ1 σ2 : AS} {x y : Nat} {ox oy : Op} {vx vy : Value} {rx ry : List Nat} {px py py' px' : Nat → Bool} (hxy : N + x ≠ N + y)
    (hwf : σ.wf) (hx : N + x < σ.next) (hy : N + y < σ.next) (hfx : σ.heap (N + x) = none) (hfy : σ.heap (N + y) = none)
    (h1 : Eff P C a (N + x) (σ.wp px) ox vx σ1 rx) (h2 : Eff P C a (N + y) ((σ1.wp σ.prot).wp py) oy vy σ2 ry)
    (hpx : ∀ r, px' r = true → px r = true) (hpy : ∀ r, py' r = true → py r = true) (hprot : ∀ r, σ.prot r = true → py r = true)
    (hk : match kindOf P ox, kindOf P oy with
      | .p, _ => True | _, .p => True | .r, .r => True | .r, .a => True | .a, .a => True
      | .r, .w => ∀ r ∈ rx, py r = true | .r, .c => ∀ r ∈ rx, py r = true | .w, .a => True | .c, .a => True | _, _ => False) :
    ∃ σ1' σ2', Eff P C a (N + y) (σ.wp py') oy vy σ1' ry ∧ Eff P C a (N + x) ((σ1'.wp σ.prot).wp px') ox vx σ2' rx ∧ σ2'.wp σ.prot = σ2.wp σ.prot := by
  have wpwp : ∀ (τ : AS) p q, (τ.wp p).wp q = τ.wp q := fun _ _ _ => rfl
  simp only [wpwp] at h2 ⊢
  -- with less protection all goes as before
  have less : ∀ {M : Nat} {o : Op} {v : Value} {rd : List Nat} {τ τ' : AS} {p q : Nat → Bool}, τ.wf → τ.heap M = none → (∀ r, q r = true → p r = true) → Eff P C a M (τ.wp p) o v τ' rd → Eff P C a M (τ.wp q) o v (τ'.wp q) rd := by
    intro M o v rd τ τ' p q hw h0 hq h
    have := eff_ext (X := fun _ => none) (p := q) hC h hw h0 (fun r hr => absurd rfl hr) (fun r hr => absurd rfl hr) rfl hq
    rwa [← wp_ext, ← wp_ext, wpwp] at this
  obtain ⟨fr1, wf1⟩ := eff_frames hC h1 hwf hx hfx
  have e1 : ∀ (p : Nat → Bool), (σ.wp p).heap = σ.heap := fun _ => rfl
  cases kx : kindOf P ox with
  | p =>
    have : σ1 = σ.wp px := by unfold Eff at h1; rw [kx] at h1; exact h1.2.1
    subst this
    simp only [wpwp] at h2
    have h2' := less hwf hfy hpy h2
    refine ⟨σ2.wp py', (σ2.wp py').wp px', h2', ?_, rfl⟩
    unfold Eff at h1 ⊢
    rw [kx] at h1 ⊢
    exact ⟨h1.1, rfl, h1.2.2⟩
  | r =>
    have : σ1 = σ.wp px := by unfold Eff at h1; rw [kx] at h1; exact h1.2
    subst this
    simp only [wpwp] at h2
    have h2' := less hwf hfy hpy h2
    obtain ⟨fr2, _⟩ := eff_frames hC h2 (σ := σ.wp py) hwf hy hfy
    have hread : readOp P (aev a) (σ.wp px) ox = some (vx, rx) := by unfold Eff at h1; rw [kx] at h1; exact h1.1
    have hlive := readOp_rd hread
    have same : ∀ r ∈ rx, σ2.heap r = σ.heap r := by
      intro r hr
      have hl : σ.heap r ≠ none := hlive r hr
      cases ky : kindOf P oy with
      | p =>
        unfold Eff at h2; rw [ky] at h2; rw [h2.2.1]; rfl
      | r =>
        unfold Eff at h2; rw [ky] at h2; rw [h2.2]; rfl
      | a =>
        unfold Eff at h2; rw [ky] at h2
        obtain ⟨c, _, rfl, _⟩ := h2
        have : r ≠ N + y := fun e => by subst e; exact hl hfy
        simp [AS.put, AS.wp, this]
      | w =>
        rw [kx, ky] at hk
        exact fr2.keep r (hk r hr) hl
      | c =>
        rw [kx, ky] at hk
        exact fr2.keep r (hk r hr) hl
    refine ⟨σ2.wp py', (σ2.wp py').wp px', h2', ?_, rfl⟩
    unfold Eff
    rw [kx]
    exact ⟨readOp_same hread (fun r hr => same r hr), rfl⟩
  | a =>
    cases ky : kindOf P oy with
    | p =>
      have : σ2 = σ1.wp py := by unfold Eff at h2; rw [ky] at h2; exact h2.2.1
      subst this
      refine ⟨σ.wp py', σ1.wp px', ?_, ?_, rfl⟩
      · unfold Eff at h2 ⊢; rw [ky] at h2 ⊢; exact ⟨h2.1, rfl, h2.2.2⟩
      · exact less hwf hfx hpx h1
    | a =>
      unfold Eff at h1 h2
      rw [kx] at h1
      rw [ky] at h2
      obtain ⟨c1, g1, rfl, g1'⟩ := h1
      obtain ⟨c2, g2, rfl, g2'⟩ := h2
      refine ⟨(σ.wp py').put (N + y) (.cells c2 false), ((σ.put (N + y) (.cells c2 false)).wp px').put (N + x) (.cells c1 false), ?_, ?_, ?_⟩
      · unfold Eff; rw [ky]; exact ⟨c2, g2, rfl, g2'⟩
      · unfold Eff; rw [kx]; exact ⟨c1, g1, rfl, g1'⟩
      · simp only [AS.put, AS.wp, AS.mk.injEq, and_true]
        funext q
        by_cases q1 : q = N + x
        · have : q ≠ N + y := by omega
          simp [q1]
          intro h; omega
        · simp [q1]
    | r => rw [kx, ky] at hk; exact hk.elim
    | w => rw [kx, ky] at hk; exact hk.elim
    | c => rw [kx, ky] at hk; exact hk.elim
  | w =>
    cases ky : kindOf P oy with
    | p =>
      have : σ2 = σ1.wp py := by unfold Eff at h2; rw [ky] at h2; exact h2.2.1
      subst this
      refine ⟨σ.wp py', σ1.wp px', ?_, ?_, rfl⟩
      · unfold Eff at h2 ⊢; rw [ky] at h2 ⊢; exact ⟨h2.1, rfl, h2.2.2⟩
      · exact less hwf hfx hpx h1
    | a =>
      unfold Eff at h2
      rw [ky] at h2
      obtain ⟨c2, g2, rfl, g2'⟩ := h2
      have q1 : σ1.heap (N + y) = none := fr1.old _ (by
        intro h
        rcases h with h | h
        · exact hxy h.symm
        · have : σ.next ≤ N + y := h; omega) hfy
      have hext := eff_ext (X := fun q => if q = N + y then some (.cells c2 false) else none) (p := px') hC h1 hwf hfx
        (fun r hr => by by_cases e : r = N + y
                        · subst e; exact hfy
                        · simp [e] at hr) (fun r hr => by
          by_cases e : r = N + y
          · subst e; exact hy
          · simp [e] at hr) (by simp; omega) hpx
      rw [single_ext (σ := σ.wp px) hfy, single_ext q1] at hext
      refine ⟨(σ.wp py').put (N + y) (.cells c2 false), (σ1.put (N + y) (.cells c2 false)).wp px', ?_, hext, rfl⟩
      unfold Eff; rw [ky]; exact ⟨c2, g2, rfl, g2'⟩
    | r => rw [kx, ky] at hk; exact hk.elim
    | w => rw [kx, ky] at hk; exact hk.elim
    | c => rw [kx, ky] at hk; exact hk.elim
  | c =>
    cases ky : kindOf P oy with
    | p =>
      have : σ2 = σ1.wp py := by unfold Eff at h2; rw [ky] at h2; exact h2.2.1
      subst this
      refine ⟨σ.wp py', σ1.wp px', ?_, ?_, rfl⟩
      · unfold Eff at h2 ⊢; rw [ky] at h2 ⊢; exact ⟨h2.1, rfl, h2.2.2⟩
      · exact less hwf hfx hpx h1
    | a =>
      unfold Eff at h2
      rw [ky] at h2
      obtain ⟨c2, g2, rfl, g2'⟩ := h2
      have q1 : σ1.heap (N + y) = none := fr1.old _ (by
        intro h
        rcases h with h | h
        · exact hxy h.symm
        · have : σ.next ≤ N + y := h; omega) hfy
      have hext := eff_ext (X := fun q => if q = N + y then some (.cells c2 false) else none) (p := px') hC h1 hwf hfx
        (fun r hr => by by_cases e : r = N + y
                        · subst e; exact hfy
                        · simp [e] at hr) (fun r hr => by
          by_cases e : r = N + y
          · subst e; exact hy
          · simp [e] at hr) (by simp; omega) hpx
      rw [single_ext (σ := σ.wp px) hfy, single_ext q1] at hext
      refine ⟨(σ.wp py').put (N + y) (.cells c2 false), (σ1.put (N + y) (.cells c2 false)).wp px', ?_, hext, rfl⟩
      unfold Eff; rw [ky]; exact ⟨c2, g2, rfl, g2'⟩
    | r => rw [kx, ky] at hk; exact hk.elim
    | w => rw [kx, ky] at hk; exact hk.elim
    | c => rw [kx, ky] at hk; exact hk.elim
theorem step_fresh (hC : CProp C) {n k : Nat} {l : List Nat} {s s' : RS} (hn : n = ops.size) (hk : k ∈ l) (hF : Fresh n N l s) (h : Step P C ops N U k s s') : Fresh n N (l.filter (· ≠ k)) s' := by
  obtain ⟨o, ho, _, h⟩ := h
  have hkn : k < n := by rw [hn]; exact (Array.getElem?_eq_some_iff.1 ho).1
  rcases h with ⟨_, v, σ1, rd, he, rfl⟩ | ⟨_, rfl⟩
  · obtain ⟨fr, wf⟩ := eff_frames hC he hF.wf (by have := hF.room; show N + k < s.σ.next; omega) (hF.free k hk)
    refine ⟨wf, by have := fr.next; have := hF.room; show N + n ≤ σ1.next; have e : (s.σ.wp (protOf U ops.size k s)).next = s.σ.next := rfl; omega, fun j hj => ?_, fun j hj => ?_, fun j hj => ?_⟩
    · simp only [List.mem_filter, decide_eq_true_eq, ne_eq] at hj
      refine fr.old (N + j) ?_ (hF.free j hj.1)
      rintro (e | e)
      · exact hj.2 (by omega)
      · have := hF.lt j hj.1
        have := hF.room
        have e2 : (s.σ.wp (protOf U ops.size k s)).next = s.σ.next := rfl
        omega
    · simp only [List.mem_filter, decide_eq_true_eq, ne_eq] at hj
      simp only [if_neg hj.2]
      exact hF.rd j hj.1
    · exact hF.lt j (List.mem_filter.1 hj).1
  · exact ⟨hF.wf, hF.room, fun j hj => hF.free j (List.mem_filter.1 hj).1, fun j hj => hF.rd j (List.mem_filter.1 hj).1, fun j hj => hF.lt j (List.mem_filter.1 hj).1⟩

theorem protOf_le {n y : Nat} {s : RS} {v : Value} {dst : Option Tmp} {τ : AS} {x : Nat} {rd : List Nat} (hτ : τ.prot = s.σ.prot) (hrd : s.rd x = fun _ => false) (r : Nat) (h : protOf U n y s r = true) :
    protOf U n y ⟨Env.put s.a dst v, τ, fun z => if z = x then (fun r => rd.contains r) else s.rd z⟩ r = true := by
  unfold protOf at h ⊢
  simp only [Bool.or_eq_true, List.any_eq_true, Bool.and_eq_true] at h ⊢
  rcases h with h | ⟨z, hz, h1, h2⟩
  · left; rw [hτ]; exact h
  · right
    refine ⟨z, hz, h1, ?_⟩
    by_cases e : z = x
    · subst e; rw [hrd] at h2; cases h2
    · rw [if_neg e]; exact h2

theorem step_swap (hC : CProp C) {x y : Nat} {l : List Nat} {s s1 s2 : RS} (hF : Fresh ops.size N l s) (hx : x ∈ l) (hy : y ∈ l) (hne : x ≠ y) (hok : swapOK P ops U x y = true)
    (h1 : Step P C ops N U x s s1) (h2 : Step P C ops N U y s1 s2) : ∃ s1', Step P C ops N U y s s1' ∧ Step P C ops N U x s1' s2 := by
  obtain ⟨ox, hox, gx, h1⟩ := h1
  obtain ⟨oy, hoy, gy, h2⟩ := h2
  unfold swapOK at hok
  simp only [hox, hoy, Bool.and_eq_true] at hok
  obtain ⟨⟨hap, hu⟩, hkind⟩ := hok
  obtain ⟨ap1, ap2, ap3⟩ := Oper.apart_spec hap
  have ap2' : ∀ d, oy.dst = some d → ox.dst ≠ some d := fun d hd he => ap2 d he hd
  rcases h1 with ⟨wx, vx, σ1, rx, ex, rfl⟩ | ⟨wx, rfl⟩
  · rcases h2 with ⟨wy, vy, σ2, ry, ey, rfl⟩ | ⟨wy, rfl⟩
    · simp only [guard_put ap1, wanted_put' ap1] at gy wy ⊢
      simp only at ey
      rw [eff_put ap1] at ey
      have hk : match kindOf P ox.op, kindOf P oy.op with
        | .p, _ => True | _, .p => True | .r, .r => True | .r, .a => True | .a, .a => True
        | .r, .w => ∀ r ∈ rx, protOf U ops.size y ⟨Env.put s.a ox.dst vx, σ1.wp s.σ.prot, fun z => if z = x then (fun r => rx.contains r) else s.rd z⟩ r = true
        | .r, .c => ∀ r ∈ rx, protOf U ops.size y ⟨Env.put s.a ox.dst vx, σ1.wp s.σ.prot, fun z => if z = x then (fun r => rx.contains r) else s.rd z⟩ r = true
        | .w, .a => True | .c, .a => True | _, _ => False := by
        have prot : U y x = true → ∀ r ∈ rx, protOf U ops.size y ⟨Env.put s.a ox.dst vx, σ1.wp s.σ.prot, fun z => if z = x then (fun r => rx.contains r) else s.rd z⟩ r = true := by
          intro hu r hr
          unfold protOf
          simp only [Bool.or_eq_true, List.any_eq_true, Bool.and_eq_true]
          right
          exact ⟨x, List.mem_range.2 (hF.lt x hx), hu, by simpa using hr⟩
        cases kx : kindOf P ox.op <;> cases ky : kindOf P oy.op <;> simp only [kx, ky] at hkind ⊢ <;> first | trivial | exact prot hkind | cases hkind
      have hpx : ∀ r, protOf U ops.size x ⟨Env.put s.a oy.dst vy, s.σ, fun z => if z = y then (fun r => ry.contains r) else s.rd z⟩ r = true → protOf U ops.size x s r = true := by
        intro r h
        unfold protOf at h ⊢
        simp only [Bool.or_eq_true, List.any_eq_true, Bool.and_eq_true] at h ⊢
        rcases h with h | ⟨z, hz, h1, h2⟩
        · exact .inl h
        · refine .inr ⟨z, hz, h1, ?_⟩
          by_cases e : z = y
          · subst e; rw [h1] at hu; cases hu
          · rwa [if_neg e] at h2
      obtain ⟨σ1', σ2', k1, k2, k3⟩ := eff_swap (py' := protOf U ops.size y s)
        (px' := protOf U ops.size x ⟨Env.put s.a oy.dst vy, s.σ, fun z => if z = y then (fun r => ry.contains r) else s.rd z⟩) hC (show N + x ≠ N + y by omega) hF.wf (by have := hF.room; have := hF.lt x hx; omega) (by have := hF.room; have := hF.lt y hy; omega) (hF.free x hx) (hF.free y hy) ex ey hpx
        (fun r h => protOf_le (by rfl) (hF.rd x hx) r h) (fun r h => by unfold protOf; simp only [Bool.or_eq_true]; left; exact h) hk
      · refine ⟨⟨Env.put s.a oy.dst vy, σ1'.wp s.σ.prot, fun z => if z = y then (fun r => ry.contains r) else s.rd z⟩, ⟨oy, hoy, gy, .inl ⟨wy, vy, σ1', ry, k1, rfl⟩⟩, ⟨ox, hox, (guard_put ap3).2 gx, .inl ⟨by rw [wanted_put' ap3]; exact wx, vx, σ2', rx, ?_, ?_⟩⟩⟩
        · rw [eff_put ap3]; exact k2
        · simp only [RS.mk.injEq]
          refine ⟨put_comm _ _ _ ap2, k3.symm, ?_⟩
          funext z
          by_cases e1 : z = x
          · subst e1; simp [hne]
          · by_cases e2 : z = y
            · subst e2; simp [e1]
            · simp [e1, e2]
    · -- y is passed over
      simp only [guard_put ap1, wanted_put' ap1] at gy wy
      have ex' : Eff P C (Env.put s.a oy.dst undef) (N + x) (s.σ.wp (protOf U ops.size x ⟨Env.put s.a oy.dst undef, s.σ, s.rd⟩)) ox.op vx σ1 rx := by rw [eff_put ap3]; exact ex
      refine ⟨⟨Env.put s.a oy.dst undef, s.σ, s.rd⟩, ⟨oy, hoy, gy, .inr ⟨wy, rfl⟩⟩, ⟨ox, hox, (guard_put ap3).2 gx, .inl ⟨by rw [wanted_put' ap3]; exact wx, vx, σ1, rx, ex', ?_⟩⟩⟩
      rw [put_comm _ _ _ ap2]
  · -- x is passed over
    rcases h2 with ⟨wy, vy, σ2, ry, ey, rfl⟩ | ⟨wy, rfl⟩
    · simp only [guard_put ap1, wanted_put' ap1] at gy wy
      rw [eff_put ap1] at ey
      refine ⟨⟨Env.put s.a oy.dst vy, σ2.wp s.σ.prot, fun z => if z = y then (fun r => ry.contains r) else s.rd z⟩, ⟨oy, hoy, gy, .inl ⟨wy, vy, σ2, ry, ey, rfl⟩⟩, ⟨ox, hox, (guard_put ap3).2 gx, .inr ⟨by rw [wanted_put' ap3]; exact wx, ?_⟩⟩⟩
      rw [put_comm _ _ _ ap2]
    · simp only [guard_put ap1, wanted_put' ap1] at gy wy
      refine ⟨⟨Env.put s.a oy.dst undef, s.σ, s.rd⟩, ⟨oy, hoy, gy, .inr ⟨wy, rfl⟩⟩, ⟨ox, hox, (guard_put ap3).2 gx, .inr ⟨by rw [wanted_put' ap3]; exact wx, ?_⟩⟩⟩
      rw [put_comm _ _ _ ap2]

/-- One that is ready comes first. -/
theorem steps_front (hC : CProp C) {i : Nat} : ∀ (pre post : List Nat) (s s' : RS), (pre ++ i :: post).Nodup → Fresh ops.size N (pre ++ i :: post) s → (∀ x ∈ pre, swapOK P ops U x i = true) →
    Steps' P C ops N U (pre ++ i :: post) s s' → Steps' P C ops N U (i :: (pre ++ post)) s s'
  | [], post, s, s', _, _, _, h => h
  | x :: pre, post, s, s', hnd, hF, hok, h => by
    cases h with
    | cons h t =>
      rename_i s1
      have hnd' : (pre ++ i :: post).Nodup := (List.nodup_cons.1 hnd).2
      have hxn : x ∉ pre ++ i :: post := (List.nodup_cons.1 hnd).1
      have hF1 := step_fresh hC rfl (by simp) hF h
      have hfil : (x :: pre ++ i :: post).filter (· ≠ x) = pre ++ i :: post := by
        rw [List.cons_append, List.filter_cons_of_neg (by simp), List.filter_eq_self.2]
        intro y hy
        simp only [ne_eq, decide_eq_true_eq]
        intro e; subst e; exact hxn hy
      rw [hfil] at hF1
      have ih := steps_front hC pre post s1 s' hnd' hF1 (fun z hz => hok z (List.mem_cons_of_mem _ hz)) t
      cases ih with
      | cons h2 t2 =>
        rename_i s2
        have hxi : x ≠ i := fun e => hxn (by subst e; simp)
        obtain ⟨s1', k1, k2⟩ := step_swap hC hF (x := x) (y := i) (by simp) (by simp) hxi (hok x (by simp)) h h2
        exact .cons k1 (.cons k2 t2)

end

end Go.Corb

/- The abstract machine, part 16: the steps of a region, in whatever order, are what the model does. Conditions: none. -/
set_option linter.unusedVariables false
set_option linter.unusedSimpArgs false
namespace Go.Corb
open Go Go.RowKit

/-- What has come of a call. -/
structure After (B : Nat) (w0 : World) (ρ : RMap) (σ σ' : AS) (v v' : Value) (ρ' : RMap) (w' : World) : Prop where
  ext : ρ.Ext ρ'
  old : ∀ r, r < σ.next → ρ' r = ρ r
  new : ∀ r, σ'.next ≤ r → ρ' r = none
  val : VR ρ' v v'
  rel : Rel B w0 ρ' σ' w'

def CSound (P : Program) (C : CallRel) : Prop :=
  ∀ {f args σ v σ'}, C f args σ v σ' → σ.wf → ∀ B w0 ρ w (args' : Array Value), Rel B w0 ρ σ w → (∀ r, σ.next ≤ r → ρ r = none) → args.length = args'.size → (∀ j, VR ρ (args.getD j undef) (args'.getD j undef)) →
    ((callFunc f args').run P w = .ok (.enter f args') w ∧ Calls P f args' w fun e w' => ∃ v' ρ', e = .returned v' ∧ After B w0 ρ σ σ' v v' ρ' w') ∨
    (∃ v' w' ρ', (callFunc f args').run P w = .ok (.value v') w' ∧ After B w0 ρ σ σ' v v' ρ' w')

section
variable {P : Program} {C : CallRel} {ops : Array Oper} {N : Nat} {U : Nat → Nat → Bool} {B : Nat} {w0 w : World} {ρ : RMap} {Q : Exit → Act → World → Prop}

theorem VR_bool_rev {ρ : RMap} {v : Value} {b : Bool} (h : VR ρ v (.bool b)) : v = .bool b ∨ v = top := by
  cases h with
  | tp => exact .inr rfl
  | sc => exact .inl rfl

theorem wanted_rel {a : Env} {b : Act} (hE : ER ρ a b.tmps) {o : Oper} (hg : guardKnown ops a o) : Region.wanted o (yielded ops b.tmps) = Region.wanted o (yielded ops a) := by
  unfold Region.wanted
  cases ho : o.guard with
  | none => rfl
  | some q =>
    obtain ⟨j, want⟩ := q
    simp only
    have : yielded ops b.tmps j = yielded ops a j := by
      unfold yielded
      cases hd : (ops[j]?).bind (·.dst) with
      | none => rfl
      | some d =>
        have hne := hg j want ho d hd
        have hv := hE.2 d
        simp only [Option.bind_some]
        by_cases hs : d < a.size
        · have hs' : d < b.tmps.size := by rw [← hE.1]; exact hs
          simp only [Array.getD_eq_getD_getElem?, Array.getElem?_eq_getElem hs, Array.getElem?_eq_getElem hs', Option.getD_some] at hv hne ⊢
          generalize a[d] = x at hv hne ⊢
          generalize b.tmps[d] = y at hv ⊢
          cases hv with
          | tp => exact absurd rfl hne
          | _ => rfl
        · have e1 : a[d]? = none := Array.getElem?_eq_none (Nat.le_of_not_lt hs)
          have e2 : b.tmps[d]? = none := Array.getElem?_eq_none (by rw [← hE.1]; exact Nat.le_of_not_lt hs)
          simp only [e1, e2]
    rw [this]

theorem callee_run {a : Env} {b : Act} (hE : ER ρ a b.tmps) {o : Oper} {f : FuncId} {args : List Value} (h : opCallee (aev a) o.op = some (f, args)) {σ : AS} (hR : Rel B w0 ρ σ w) {type : TypeId} :
    ∃ args' : Array Value, (execOp b.eval o).run P w = (callFunc f args').run P w ∧ args.length = args'.size ∧ ∀ j, VR ρ (args.getD j undef) (args'.getD j undef) := by
  obtain ⟨dst, op, ty, pos, after, guard⟩ := o
  simp only at h
  unfold opCallee at h
  split at h
  · rename_i c
    obtain ⟨callee, cargs, ats⟩ := c
    simp only at h
    split at h
    · rename_i g
      split at h
      · rename_i f' fi cs hg
        simp only [Option.some.injEq, Prod.mk.injEq] at h
        obtain ⟨rfl, rfl⟩ := h
        have hv := hE.ev g
        rw [hg] at hv
        generalize hy : b.eval g = y at hv
        cases hv with
        | sc _ hs => cases hs
        | func _ _ cs' hs hcs =>
          refine ⟨cargs.map b.eval ++ cs', ?_, ?_, fun j => ?_⟩
          · simp [execOp, resolve, hy, Deferred.ofValue, invoke]
          · simp [hs]
          · have e1 := list_rel hE cargs.toList j
            simp only [List.getD_eq_getElem?_getD, Array.getD_eq_getD_getElem?, List.getElem?_append, Array.getElem?_append, List.length_map, Array.length_toList, Array.size_map] at e1 ⊢
            split
            · simpa using e1
            · have := hcs (j - cargs.size)
              simpa [Array.getD_eq_getD_getElem?] using this
      · cases h
    · cases h
  · cases h

/-- What is asked of what comes behind an operation. -/
structure Then (B : Nat) (w0 : World) (ρ : RMap) (N n k : Nat) (s' : RS) (d : List Deferred) (b' : Act) (w' : World) (ρ' : RMap) : Prop where
  defers : b'.defers = d
  ext : ρ.Ext ρ'
  low : ∀ r, r < N → ρ' r = ρ r
  other : ∀ j, j < n → j ≠ k → ρ' (N + j) = ρ (N + j)
  high : ∀ r, s'.σ.next ≤ r → ρ' r = none
  env : ER ρ' s'.a b'.tmps
  rel : Rel B w0 ρ' s'.σ w'

theorem step_sim (hS : CSound P C) {k : Nat} {l : List Nat} {s s' : RS} (hF : Fresh ops.size N l s) (hk : k ∈ l) (h : Step P C ops N U k s s') {b : Act} (hR : Rel B w0 ρ s.σ w) (hE : ER ρ s.a b.tmps)
    (hρ : ∀ j ∈ l, ρ (N + j) = none) (hρ2 : ∀ r, s.σ.next ≤ r → ρ r = none) {K : Act → World → Prop} (hK : ∀ b' w' ρ', Then B w0 ρ N ops.size k s' b.defers b' w' ρ' → K b' w') :
    wpOp P ops Q k K b w := by
  obtain ⟨o, ho, hg, h⟩ := h
  have hkn := hF.lt k hk
  have hroom := hF.room
  unfold wpOp
  simp only [ho]
  rw [wanted_rel hE hg]
  rcases h with ⟨hw, v, σ1, rd, he, rfl⟩ | ⟨hw, rfl⟩
  · rw [if_pos hw]
    left
    have hRw : ∀ p, Rel B w0 ρ (s.σ.wp p) w := fun p => ⟨hR.below, hR.hB, hR.objs, hR.sep, hR.lt⟩
    have hRb : ∀ {ρ' w'} p, Rel B w0 ρ' σ1 w' → Rel B w0 ρ' (σ1.wp p) w' := fun p h => ⟨h.below, h.hB, h.objs, h.sep, h.lt⟩
    have hN := hρ k hk
    -- what is asked, out of an effect of the operation's own
    have fin : ∀ v' w' ρ', ρ.Ext ρ' → (∀ q, q ≠ N + k → ρ' q = ρ q) → σ1.next = s.σ.next → VR ρ' v v' → Rel B w0 ρ' σ1 w' → K (b.put o.dst v') w' := by
      intro v' w' ρ' h1 h2 h3 h4 h5
      refine hK _ _ ρ' ⟨by cases o.dst <;> rfl, h1, fun r hr => h2 r (by omega), fun j hj hjk => h2 _ (by omega), fun r hr => ?_, (hE.mono h1).put o.dst h4, hRb _ h5⟩
      have hr' : s.σ.next ≤ r := by rw [← h3]; exact hr
      rw [h2 r (by omega)]
      exact hρ2 r hr'
    unfold Eff at he
    unfold Oper.wp
    split at he
    · obtain ⟨h, rfl, _⟩ := he
      obtain ⟨v', hr, hv⟩ := pureOp_run P hE h w
      rw [hr]
      exact fin v' w ρ (.refl _) (fun _ _ => rfl) rfl hv (hRw _)
    · obtain ⟨h, rfl⟩ := he
      obtain ⟨v', hr, hv⟩ := readOp_run (hRw _) hE h
      rw [hr]
      exact fin v' w ρ (.refl _) (fun _ _ => rfl) rfl hv (hRw _)
    · obtain ⟨c, h, rfl, _⟩ := he
      obtain ⟨v', w', i, hr, hv, hR'⟩ := allocOp_run (hRw (protOf U ops.size k s)) hE hN h
      rw [hr]
      exact fin v' w' (ρ.set (N + k) i) (RMap.set_ext hN i) (fun q hq => set_other _ _ _ q hq) rfl hv hR'
    · rename_i hkind
      obtain ⟨h, _⟩ := he
      have hnext := (writeOp_ext (X := fun _ => none) (p := (s.σ.wp (protOf U ops.size k s)).prot) h (fun r hr => absurd rfl hr) rfl (hF.free k hk) (fun _ h => h)).2.2.2
      obtain ⟨v', w', ρ', hr, h1, h2, h3, h4⟩ := writeOp_run (hRw (protOf U ops.size k s)) hE hN h (fun c hc => by
        rw [hc] at hkind h
        obtain ⟨callee, args, ats⟩ := c
        cases callee with
        | builtin b =>
          cases b <;> simp [kindOf] at hkind <;> first | exact hkind | (unfold writeOp at h; simp at h)
        | value g => simp [kindOf] at hkind
        | invoke r m => simp [kindOf] at hkind)
      rcases hr with hr | ⟨hr, rfl⟩
      · rw [hr]; exact fin v' w' ρ' h1 h2 hnext h3 h4
      · rw [hr]; exact fin undef w' ρ' h1 h2 hnext h3 h4
    · obtain ⟨f, args, hcal, hc, _⟩ := he
      obtain ⟨args', hrun, hlen, hargs⟩ := callee_run (P := P) hE hcal (hRw (protOf U ops.size k s)) (type := o.type)
      have hwf : (s.σ.wp (protOf U ops.size k s)).wf := hF.wf
      have hop : (execOp b.eval o).run P w = (callFunc f args').run P w := hrun
      rw [hop]
      have fin2 : ∀ v' w' ρ', After B w0 ρ (s.σ.wp (protOf U ops.size k s)) σ1 v v' ρ' w' → K (b.put o.dst v') w' := by
        intro v' w' ρ' ha
        refine hK _ _ ρ' ⟨by cases o.dst <;> rfl, ha.ext, fun r hr => ha.old r (show r < s.σ.next by omega), fun j hj hjk => ha.old _ (show N + j < s.σ.next by omega), ha.new, (hE.mono ha.ext).put o.dst ha.val, hRb _ ha.rel⟩
      rcases hS hc hwf B w0 ρ w args' (hRw _) hρ2 hlen hargs with ⟨h1, h2⟩ | ⟨v', w', ρ', h1, h2⟩
      · rw [h1]
        refine Calls.mono h2 fun e w' h => ?_
        obtain ⟨v', ρ', rfl, ha⟩ := h
        exact fin2 v' w' ρ' ha
      · rw [h1]
        exact fin2 v' w' ρ' h2
  · rw [if_neg (by rw [hw]; simp)]
    exact hK _ _ ρ ⟨by cases o.dst <;> rfl, .refl _, fun _ _ => rfl, fun _ _ _ => rfl, hρ2, hE.put o.dst .und, hR⟩
/-- All steps, in the order of the list. -/
theorem steps_sim (hC : CProp C) (hS : CSound P C) : ∀ {l : List Nat} {s s' : RS} {b : Act} {w : World} {ρ : RMap}, l.Nodup → Fresh ops.size N l s → Steps' P C ops N U l s s' → Rel B w0 ρ s.σ w → ER ρ s.a b.tmps →
    (∀ j ∈ l, ρ (N + j) = none) → (∀ r, s.σ.next ≤ r → ρ r = none) →
    (∀ b' w' ρ', b'.defers = b.defers → ρ.Ext ρ' → (∀ r, r < N → ρ' r = ρ r) → (∀ r, s'.σ.next ≤ r → ρ' r = none) → ER ρ' s'.a b'.tmps → Rel B w0 ρ' s'.σ w' → Q .normal b' w') → wpOps P ops Q l b w
  | [], s, s', b, w, ρ, _, _, h, hR, hE, _, hρ2, hQ => by
    cases h
    exact hQ b w ρ rfl (.refl _) (fun _ _ => rfl) hρ2 hE hR
  | k :: l, s, s', b, w, ρ, hnd, hF, h, hR, hE, hρ, hρ2, hQ => by
    cases h with
    | cons h t =>
      rename_i s1
      obtain ⟨hkl, hnd'⟩ := List.nodup_cons.1 hnd
      rw [wpOps_cons]
      refine step_sim hS hF (by simp) h hR hE hρ hρ2 fun b' w' ρ' ht => ?_
      have hF1 := step_fresh hC rfl (by simp) hF h
      have hfil : (k :: l).filter (· ≠ k) = l := by
        rw [List.filter_cons_of_neg (by simp), List.filter_eq_self.2]
        intro y hy
        simp only [ne_eq, decide_eq_true_eq]
        intro e; subst e; exact hkl hy
      rw [hfil] at hF1
      refine steps_sim hC hS hnd' hF1 t ht.rel ht.env (fun j hj => ?_) ht.high fun b2 w2 ρ2 e1 e2 e3 e4 e5 e6 => ?_
      · rw [ht.other j (hF.lt j (by simp [hj])) (fun e => hkl (e ▸ hj))]
        exact hρ j (by simp [hj])
      · exact hQ b2 w2 ρ2 (e1.trans ht.defers) (ht.ext.trans e2) (fun r hr => (e3 r hr).trans (ht.low r hr)) e4 e5 e6

/-! ### an order that the region allows -/
inductive Prec (ops : Array Oper) : Nat → Nat → Prop
  | edge {y : Nat} {o : Oper} {e : Edge} (h : ops[y]? = some o) (he : e ∈ o.after) (hb : Region.binds .any e = true) : Prec ops e.on y
  | trans {x z y : Nat} {o : Oper} {e : Edge} (hp : Prec ops x e.on) (h : ops[y]? = some o) (he : e ∈ o.after) (hb : Region.binds .any e = true) : Prec ops x y

def Closed (ops : Array Oper) (listed : Array Bool) : Prop := ∀ z o, ops[z]? = some o → listed.getD z false = true → ∀ e ∈ o.after, Region.binds .any e = true → listed.getD e.on false = true

theorem Prec.listed {x y : Nat} (h : Prec ops x y) {listed : Array Bool} (hc : Closed ops listed) : (∀ o, ops[y]? = some o → ∀ e ∈ o.after, Region.binds .any e = true → listed.getD e.on false = true) → listed.getD x false = true := by
  induction h with
  | edge h he hb => exact fun hy => hy _ h _ he hb
  | @trans x z y o e hp h he hb ih =>
    intro hy
    have hz := hy _ h _ he hb
    exact ih fun o' ho' e' he' hb' => hc _ o' ho' hz e' he' hb'

def maskOf (acc : Array Nat) (l : List Edge) : Nat := l.foldr (fun e s => if Region.binds .any e then s ||| (2 ^ e.on ||| acc.getD e.on 0) else s) 0

def beforeL : List Oper → Array Nat → Array Nat
  | [], acc => acc
  | o :: l, acc => beforeL l (acc.push (maskOf acc o.after.toList))

theorem maskOf_bit {acc : Array Nat} {x : Nat} : ∀ {l : List Edge}, (maskOf acc l).testBit x = true → ∃ e ∈ l, Region.binds .any e = true ∧ (x = e.on ∨ (acc.getD e.on 0).testBit x = true)
  | [], h => by simp [maskOf] at h
  | e :: l, h => by
    simp only [maskOf, List.foldr_cons] at h
    by_cases hb : Region.binds .any e = true
    · rw [if_pos hb] at h
      simp only [Nat.testBit_or, Bool.or_eq_true] at h
      rcases h with h | h | h
      · obtain ⟨e', h1, h2⟩ := maskOf_bit (l := l) h
        exact ⟨e', List.mem_cons_of_mem _ h1, h2⟩
      · rw [Nat.testBit_two_pow] at h
        exact ⟨e, by simp, hb, .inl (by simpa [eq_comm] using h)⟩
      · exact ⟨e, by simp, hb, .inr h⟩
    · rw [if_neg hb] at h
      obtain ⟨e', h1, h2⟩ := maskOf_bit (l := l) h
      exact ⟨e', List.mem_cons_of_mem _ h1, h2⟩

theorem beforeL_bit : ∀ (l : List Oper) (acc : Array Nat), (∀ j, l[j]? = ops[acc.size + j]?) → (∀ y, y < acc.size → ∀ x, (acc.getD y 0).testBit x = true → Prec ops x y) →
    ∀ y x, ((beforeL l acc).getD y 0).testBit x = true → Prec ops x y
  | [], acc, _, h, y, x, hb => by
    by_cases hy : y < acc.size
    · exact h y hy x hb
    · simp only [beforeL, Array.getD_eq_getD_getElem?, Array.getElem?_eq_none (Nat.le_of_not_lt hy), Option.getD_none, Nat.zero_testBit] at hb
      cases hb
  | o :: l, acc, hl, h, y, x, hb => by
    refine beforeL_bit l (acc.push (maskOf acc o.after.toList)) (fun j => ?_) (fun z hz u hu => ?_) y x hb
    · have := hl (j + 1)
      rw [Array.size_push, show acc.size + 1 + j = acc.size + (j + 1) by omega, ← this]
      rfl
    · rw [Array.size_push] at hz
      by_cases e : z = acc.size
      · subst e
        have ho : ops[acc.size]? = some o := by simpa using (hl 0).symm
        simp only [Array.getD_eq_getD_getElem?, Array.getElem?_push_size, Option.getD_some] at hu
        obtain ⟨e, he, hbind, hx⟩ := maskOf_bit hu
        have he' : e ∈ o.after := by simpa using he
        rcases hx with rfl | hx
        · exact .edge ho he' hbind
        · by_cases hlt : e.on < acc.size
          · exact .trans (z := 0) (h _ hlt _ hx) ho he' hbind
          · simp only [Array.getD_eq_getD_getElem?, Array.getElem?_eq_none (Nat.le_of_not_lt hlt), Option.getD_none, Nat.zero_testBit] at hx
            cases hx
      · have hz' : z < acc.size := by omega
        refine h z hz' u ?_
        simpa [Array.getD_eq_getD_getElem?, Array.getElem?_push, e] using hu

end

end Go.Corb

/- The abstract machine, part 17: a region whose order Go leaves open. Conditions: none. -/
set_option linter.unusedVariables false
set_option linter.unusedSimpArgs false
namespace Go.Corb
open Go Go.RowKit

def pairsB (f : Nat → Nat → Bool) : List Nat → Bool
  | [] => true
  | x :: l => l.all (f x) && pairsB f l

def pairOK (P : Program) (ops : Array Oper) (U : Nat → Nat → Bool) (bef : Array Nat) (x y : Nat) : Bool :=
  (x != y) && ((bef.getD y 0).testBit x || swapOK P ops U x y) && (match ops[x]? with
    | some ox => ox.after.all fun e => !(Region.binds .any e) || e.on != y
    | none => false)

def selfOK (ops : Array Oper) (x : Nat) : Bool :=
  match ops[x]? with
  | some ox => ox.after.all fun e => !(Region.binds .any e) || (e.on != x && decide (e.on < ops.size))
  | none => false

def regionOK (P : Program) (ops : Array Oper) (U : Nat → Nat → Bool) (ord : List Nat) : Bool :=
  decide (ord.length = ops.size) && (List.range ops.size).all (fun k => ord.contains k) && ord.all (selfOK ops) && pairsB (pairOK P ops U (beforeL ops.toList #[])) ord

section
variable {P : Program} {C : CallRel} {ops : Array Oper} {N : Nat} {U : Nat → Nat → Bool} {B : Nat} {w0 : World} {Q : Exit → Act → World → Prop}

theorem pairsB_spec {f : Nat → Nat → Bool} : ∀ {l : List Nat}, pairsB f l = true → ∀ pre x post, l = pre ++ x :: post → (∀ y ∈ pre, f y x = true) ∧ ∀ y ∈ post, f x y = true
  | [], _, pre, x, post, h => by simp at h
  | z :: l, hp, [], x, post, h => by
    simp only [List.nil_append, List.cons.injEq] at h
    obtain ⟨rfl, rfl⟩ := h
    simp only [pairsB, Bool.and_eq_true, List.all_eq_true] at hp
    exact ⟨by simp, hp.1⟩
  | z :: l, hp, w :: pre, x, post, h => by
    simp only [List.cons_append, List.cons.injEq] at h
    obtain ⟨rfl, rfl⟩ := h
    simp only [pairsB, Bool.and_eq_true, List.all_eq_true] at hp
    obtain ⟨h1, h2⟩ := pairsB_spec hp.2 pre x post rfl
    refine ⟨fun y hy => ?_, h2⟩
    rcases List.mem_cons.1 hy with rfl | hy
    · exact hp.1 x (by simp)
    · exact h1 y hy

theorem pairsB_sub {f : Nat → Nat → Bool} {l m : List Nat} (h : pairsB f l = true) (hs : m.Sublist l) : pairsB f m = true := by
  induction hs with
  | slnil => exact h
  | cons a s ih =>
    simp only [pairsB, Bool.and_eq_true] at h
    exact ih h.2
  | cons_cons a s ih =>
    simp only [pairsB, Bool.and_eq_true, List.all_eq_true] at h ⊢
    exact ⟨fun y hy => h.1 y (s.subset hy), ih h.2⟩

theorem pairsB_nodup {f : Nat → Nat → Bool} (hf : ∀ x y, f x y = true → x ≠ y) : ∀ {l : List Nat}, pairsB f l = true → l.Nodup
  | [], _ => List.nodup_nil
  | x :: l, h => by
    simp only [pairsB, Bool.and_eq_true, List.all_eq_true] at h
    exact List.nodup_cons.2 ⟨fun hm => hf x x (h.1 x hm) rfl, pairsB_nodup hf h.2⟩

theorem any_sim (hC : CProp C) (hS : CSound P C) : ∀ (fuel : Nat) {listed : Array Bool} {l : List Nat} {s s' : RS} {b : Act} {w : World} {ρ : RMap}, l.length ≤ fuel → listed.size = ops.size →
    (∀ k, k ∈ l ↔ k < ops.size ∧ listed.getD k true = false) → Closed ops listed → pairsB (pairOK P ops U (beforeL ops.toList #[])) l = true → (∀ k ∈ l, selfOK ops k = true) →
    Fresh ops.size N l s → Steps' P C ops N U l s s' → Rel B w0 ρ s.σ w → ER ρ s.a b.tmps → (∀ j ∈ l, ρ (N + j) = none) → (∀ r, s.σ.next ≤ r → ρ r = none) →
    (∀ b' w' ρ', b'.defers = b.defers → ρ.Ext ρ' → (∀ r, r < N → ρ' r = ρ r) → (∀ r, s'.σ.next ≤ r → ρ' r = none) → ER ρ' s'.a b'.tmps → Rel B w0 ρ' s'.σ w' → Q .normal b' w') →
    wpAny P .any ops Q fuel listed b w := by
  intro fuel
  induction fuel with
  | zero =>
    intro listed l s s' b w ρ hlen hsz hl hcl hp hself hF h hR hE hρ hρ2 hQ
    have : l = [] := List.eq_nil_of_length_eq_zero (by omega)
    subst this
    cases h
    refine ⟨?_, hQ b w ρ rfl (.refl _) (fun _ _ => rfl) hρ2 hE hR⟩
    apply List.eq_nil_iff_forall_not_mem.2
    intro k hk
    obtain ⟨h1, o, ho, _⟩ := mem_ready.1 hk
    have := (hl k).2 ⟨(Array.getElem?_eq_some_iff.1 ho).1, h1⟩
    cases this
  | succ fuel ih =>
    intro listed l s s' b w ρ hlen hsz hl hcl hp hself hF h hR hE hρ hρ2 hQ
    have hnd : l.Nodup := pairsB_nodup (fun x y h => by simp only [pairOK, Bool.and_eq_true, bne_iff_ne] at h; exact h.1.1) hp
    refine ⟨fun hr => ?_, fun i hi => ?_⟩
    · -- nothing is ready: all is done
      cases l with
      | nil => cases h; exact hQ b w ρ rfl (.refl _) (fun _ _ => rfl) hρ2 hE hR
      | cons k l =>
        exfalso
        have hk := (hl k).1 (by simp)
        have hready : k ∈ Region.ready .any ops listed := by
          rw [mem_ready]
          refine ⟨hk.2, ops[k]'hk.1, Array.getElem?_eq_getElem hk.1, fun e he hb => ?_⟩
          have hs := hself k (by simp)
          unfold selfOK at hs
          rw [Array.getElem?_eq_getElem hk.1] at hs
          have hse := Array.all_eq_true_iff_forall_mem.1 hs e he
          rw [hb] at hse
          simp only [Bool.not_true, Bool.false_or, Bool.and_eq_true, bne_iff_ne, decide_eq_true_eq] at hse
          cases hc : listed.getD e.on false with
          | true => rfl
          | false =>
            have hlt : e.on < listed.size := by rw [hsz]; exact hse.2
            have hmem : e.on ∈ k :: l := (hl e.on).2 ⟨hse.2, by simpa [Array.getD_eq_getD_getElem?, Array.getElem?_eq_getElem hlt] using hc⟩
            rcases List.mem_cons.1 hmem with h' | h'
            · exact absurd h' hse.1
            · have := (pairsB_spec hp [] k l rfl).2 e.on h'
              unfold pairOK at this
              rw [Array.getElem?_eq_getElem hk.1] at this
              simp only [Bool.and_eq_true] at this
              have := Array.all_eq_true_iff_forall_mem.1 this.2 e he
              simp [hb] at this
        rw [hr] at hready
        cases hready
    · obtain ⟨hun, o, ho, hall⟩ := mem_ready.1 hi
      have hin : i < ops.size := (Array.getElem?_eq_some_iff.1 ho).1
      have hil : i ∈ l := (hl i).2 ⟨hin, hun⟩
      obtain ⟨pre, post, rfl⟩ := List.append_of_mem hil
      have hspec := pairsB_spec hp pre i post rfl
      have hok : ∀ x ∈ pre, swapOK P ops U x i = true := by
        intro x hx
        have hxi := hspec.1 x hx
        unfold pairOK at hxi
        simp only [Bool.and_eq_true, Bool.or_eq_true] at hxi
        rcases hxi.1.2 with hbit | h
        · exfalso
          have hprec : Prec ops x i := beforeL_bit ops.toList #[] (fun j => by simp) (fun y hy => by simp at hy) i x hbit
          have hlist := hprec.listed hcl (fun o' ho' e he hb => by rw [ho] at ho'; injection ho' with ho'; subst ho'; exact hall e he hb)
          have hxl := ((hl x).1 (by simp [hx]))
          have hlt : x < listed.size := by rw [hsz]; exact hxl.1
          have h1 := hxl.2
          simp only [Array.getD_eq_getD_getElem?, Array.getElem?_eq_getElem hlt, Option.getD_some] at h1 hlist
          rw [h1] at hlist
          cases hlist
        · exact h
      have hfront := steps_front hC pre post s s' hnd hF hok h
      cases hfront with
      | cons h1 t =>
        rename_i s1
        refine step_sim hS hF (by simp) h1 hR hE hρ hρ2 fun b' w' ρ' ht => ?_
        have hF1 := step_fresh hC rfl (by simp) hF h1
        have hfil : (pre ++ i :: post).filter (· ≠ i) = pre ++ post := by
          have hne : ∀ y ∈ pre ++ post, y ≠ i := by
            intro y hy e
            subst e
            have := List.nodup_append.1 hnd
            rcases List.mem_append.1 hy with h | h
            · exact this.2.2 _ h _ (by simp) rfl
            · exact (List.nodup_cons.1 this.2.1).1 h
          rw [List.filter_append, List.filter_cons_of_neg (by simp), List.filter_eq_self.2, List.filter_eq_self.2]
          · intro y hy; simpa using hne y (by simp [hy])
          · intro y hy; simpa using hne y (by simp [hy])
        rw [hfil] at hF1
        have hsub : (pre ++ post).Sublist (pre ++ i :: post) := (List.Sublist.refl pre).append (List.sublist_cons_self i post)
        have hnotin : i ∉ pre ++ post := by
          intro hm
          have : i ∈ (pre ++ i :: post).filter (· ≠ i) := by rw [hfil]; exact hm
          simp at this
        refine ih (by simp at hlen ⊢; omega) (by simpa using hsz) (fun k => ?_) ?_ (pairsB_sub hp hsub) (fun k hk => hself k (hsub.subset hk)) hF1 t ht.rel ht.env (fun j hj => ?_) ht.high fun b2 w2 ρ2 e1 e2 e3 e4 e5 e6 => ?_
        · have hk := hl k
          by_cases e : k = i
          · subst e
            have hlt : k < listed.size := by rw [hsz]; exact hin
            simp [hnotin, Array.getD_eq_getD_getElem?, hlt]
          · rw [getD_set_ne true (Ne.symm e), ← hk]
            simp [e]
        · intro z oz hz hlz e he hb
          by_cases ez : z = i
          · subst ez
            rw [ho] at hz
            injection hz with hz
            subst hz
            exact getD_set_true (hall e he hb)
          · rw [getD_set_ne false (Ne.symm ez)] at hlz
            exact getD_set_true (hcl z oz hz hlz e he hb)
        · rw [ht.other j (hF.lt j (hsub.subset hj)) (fun e => hnotin (e ▸ hj))]
          exact hρ j (hsub.subset hj)
        · exact hQ b2 w2 ρ2 (e1.trans ht.defers) (ht.ext.trans e2) (fun r hr => (e3 r hr).trans (ht.low r hr)) e4 e5 e6

/-- A region, drawn or not. -/
theorem region_sim (hm : P.follows .mixedOrders = true) (hC : CProp C) (hS : CSound P C) {id : Nat} {draw : Bool} {ord : List Nat} (hord : if draw then regionOK P ops U ord = true else ord = List.range ops.size)
    {a : Env} {σ : AS} {s' : RS} (hwf : σ.wf) (h : Steps' P C ops σ.next U ord ⟨a, { σ with next := σ.next + ops.size }, fun _ _ => false⟩ s') {b : Act} {w : World} {ρ : RMap} (hR : Rel B w0 ρ σ w) (hE : ER ρ a b.tmps)
    (hρ : ∀ r, σ.next ≤ r → ρ r = none)
    (hQ : ∀ b' w' ρ', b'.defers = b.defers → ρ.Ext ρ' → (∀ r, r < σ.next → ρ' r = ρ r) → (∀ r, s'.σ.next ≤ r → ρ' r = none) → ER ρ' s'.a b'.tmps → Rel B w0 ρ' s'.σ w' → Q .normal b' w') :
    (Code.region id ops draw).wp P Q b w := by
  have hR' : Rel B w0 ρ { σ with next := σ.next + ops.size } w := ⟨hR.below, hR.hB, hR.objs, hR.sep, hR.lt⟩
  have mkF : ∀ l : List Nat, (∀ k ∈ l, k < ops.size) → Fresh ops.size σ.next l ⟨a, { σ with next := σ.next + ops.size }, fun _ _ => false⟩ := fun l hl =>
    ⟨fun r hr => hwf r (by have : σ.next + ops.size ≤ r := hr; omega), Nat.le_refl _, fun k _ => hwf _ (by omega), fun _ _ => rfl, hl⟩
  cases draw with
  | false =>
    simp only [Bool.false_eq_true, if_false] at hord
    subst hord
    refine wp_region (steps_sim hC hS List.nodup_range (mkF _ (fun k hk => List.mem_range.1 hk)) h hR' hE (fun j _ => hρ _ (by omega)) (fun r hr => hρ r (by have : σ.next + ops.size ≤ r := hr; omega)) hQ)
  | true =>
    simp only [if_true] at hord
    unfold regionOK at hord
    simp only [Bool.and_eq_true, decide_eq_true_eq, List.all_eq_true, List.mem_range, List.contains_iff_mem] at hord
    obtain ⟨⟨⟨hlen, hmem⟩, hself⟩, hp⟩ := hord
    have hlt : ∀ k ∈ ord, k < ops.size := by
      intro k hk
      have := hself k hk
      unfold selfOK at this
      cases hq : ops[k]? with
      | none => simp [hq] at this
      | some o => exact (Array.getElem?_eq_some_iff.1 hq).1
    refine wp_region_any hm (any_sim hC hS ops.size (by omega) (by simp) (fun k => ⟨fun hk => ⟨hlt k hk, by simp [Array.getD_eq_getD_getElem?, hlt k hk]⟩, fun hk => hmem k hk.1⟩) ?_ hp hself (mkF _ hlt) h ?_ hE (fun j _ => hρ _ (by omega))
      (fun r hr => hρ r (by have : σ.next + ops.size ≤ r := hr; omega)) hQ)
    · intro z o hz hl
      simp only [Array.getD_eq_getD_getElem?, Array.getElem?_replicate] at hl
      split at hl <;> cases hl
    · exact hR'.drewN _
end

end Go.Corb

/- The abstract machine, part 18: runs of code. Conditions: none. -/
set_option linter.unusedVariables false
set_option linter.unusedSimpArgs false
namespace Go.Corb
open Go Go.RowKit

def blockExit (id : Nat) : Exit → Exit
  | .exit id' => if id' = id then .normal else .exit id'
  | e => e

inductive Run (P : Program) (C : CallRel) : Code → Env → AS → Exit → Env → AS → Prop
  | skip (a : Env) (σ : AS) : Run P C .skip a σ .normal a σ
  | seqN {x y : Code} {a a1 a2 : Env} {σ σ1 σ2 : AS} {e : Exit} (h : Run P C x a σ .normal a1 σ1) (k : Run P C y a1 σ1 e a2 σ2) : Run P C (.seq x y) a σ e a2 σ2
  | seqE {x y : Code} {a a1 : Env} {σ σ1 : AS} {e : Exit} (h : Run P C x a σ e a1 σ1) (hne : e ≠ .normal) : Run P C (.seq x y) a σ e a1 σ1
  | cond {c : Operand} {x y : Code} {a a1 : Env} {σ σ1 : AS} {e : Exit} (t : Bool) (hc : aev a c = .bool t) (h : Run P C (if t then x else y) a σ e a1 σ1) : Run P C (.cond c x y) a σ e a1 σ1
  | block {id : Nat} {c : Code} {a a1 : Env} {σ σ1 : AS} {e : Exit} (h : Run P C c a σ e a1 σ1) : Run P C (.block id c) a σ (blockExit id e) a1 σ1
  | loopN (L : List Nat) {c : Code} {a a1 a2 : Env} {σ σ1 σ2 : AS} {e : Exit} (h : Run P C c (restrict L a) σ .normal a1 σ1) (k : Run P C (.loop c) a1 σ1 e a2 σ2) : Run P C (.loop c) a σ e a2 σ2
  | loopE (L : List Nat) {c : Code} {a a1 : Env} {σ σ1 : AS} {e : Exit} (h : Run P C c (restrict L a) σ e a1 σ1) (hne : e ≠ .normal) : Run P C (.loop c) a σ e a1 σ1
  | exit (id : Nat) (a : Env) (σ : AS) : Run P C (.exit id) a σ (.exit id) a σ
  | ret (a : Env) (σ : AS) : Run P C .ret a σ .ret a σ
  | region {id : Nat} {ops : Array Oper} {draw : Bool} {a a' : Env} {σ σ' : AS} {rd : Nat → Nat → Bool} (ord : List Nat) (U : Nat → Nat → Bool) (hord : if draw then regionOK P ops U ord = true else ord = List.range ops.size)
      (h : Steps' P C ops σ.next U ord ⟨a, { σ with next := σ.next + ops.size }, fun _ _ => false⟩ ⟨a', σ', rd⟩) : Run P C (.region id ops draw) a σ .normal a' σ'

section
variable {P : Program} {C : CallRel}

theorem Frames.trans {M : Nat → Prop} {a b c : AS} (h : Frames M a b) (k : Frames M b c) : Frames M a c :=
  ⟨k.prot.trans h.prot, Nat.le_trans h.next k.next, fun r hr h0 => (k.keep r (by rw [h.prot]; exact hr) (by rw [h.keep r hr h0]; exact h0)).trans (h.keep r hr h0), fun r hr h0 => k.old r hr (h.old r hr h0)⟩

theorem steps_frames (hC : CProp C) {ops : Array Oper} {N : Nat} {U : Nat → Nat → Bool} : ∀ {l : List Nat} {s s' : RS}, l.Nodup → Fresh ops.size N l s → Steps' P C ops N U l s s' → Frames (fun r => N ≤ r) s.σ s'.σ ∧ s'.σ.wf
  | [], s, s', _, hF, h => by cases h; exact ⟨.refl _ _, hF.wf⟩
  | k :: l, s, s', hnd, hF, h => by
    cases h with
    | cons h t =>
      rename_i s1
      obtain ⟨hkl, hnd'⟩ := List.nodup_cons.1 hnd
      have hF1 := step_fresh hC rfl (by simp) hF h
      have hfil : (k :: l).filter (· ≠ k) = l := by
        rw [List.filter_cons_of_neg (by simp), List.filter_eq_self.2]
        intro y hy
        simp only [ne_eq, decide_eq_true_eq]
        intro e; subst e; exact hkl hy
      rw [hfil] at hF1
      obtain ⟨f2, w2⟩ := steps_frames hC hnd' hF1 t
      refine ⟨Frames.trans ?_ f2, w2⟩
      obtain ⟨o, ho, _, h⟩ := h
      rcases h with ⟨_, v, σ1, rd, he, rfl⟩ | ⟨_, rfl⟩
      · obtain ⟨fr, _⟩ := eff_frames hC he hF.wf (by have := hF.room; have := hF.lt k (by simp); show N + k < s.σ.next; omega) (hF.free k (by simp))
        have hroom := hF.room
        refine ⟨rfl, fr.next, fun r hr h0 => fr.keep r ?_ h0, fun r hr h0 => fr.old r ?_ h0⟩
        · show protOf U ops.size k s r = true
          unfold protOf; rw [hr]; rfl
        · rintro (e | e)
          · omega
          · have : s.σ.next ≤ r := e; omega
      · exact .refl _ _

theorem steps_ext (hC : CProp C) {ops : Array Oper} {N : Nat} {U : Nat → Nat → Bool} {X : Nat → Option AObj} {p : Nat → Bool} (hlt : ∀ r, X r ≠ none → r < N) : ∀ {l : List Nat} {s s' : RS}, l.Nodup → Fresh ops.size N l s →
    Beside X s.σ → (∀ r, p r = true → s.σ.prot r = true) → Steps' P C ops N U l s s' → Steps' P C ops N U l ⟨s.a, s.σ.ext X p, s.rd⟩ ⟨s'.a, s'.σ.ext X p, s'.rd⟩
  | [], s, s', _, hF, _, _, h => by cases h; exact .nil _
  | k :: l, s, s', hnd, hF, hX, hp, h => by
    cases h with
    | cons h t =>
      rename_i s1
      obtain ⟨hkl, hnd'⟩ := List.nodup_cons.1 hnd
      have hF1 := step_fresh hC rfl (by simp) hF h
      have hfil : (k :: l).filter (· ≠ k) = l := by
        rw [List.filter_cons_of_neg (by simp), List.filter_eq_self.2]
        intro y hy
        simp only [ne_eq, decide_eq_true_eq]
        intro e; subst e; exact hkl hy
      rw [hfil] at hF1
      have hroom := hF.room
      have hk := hF.lt k (by simp)
      obtain ⟨o, ho, hg, h⟩ := h
      rcases h with ⟨hw, v, σ1, rd, he, rfl⟩ | ⟨hw, rfl⟩
      · obtain ⟨fr, _⟩ := eff_frames hC he hF.wf (by show N + k < s.σ.next; omega) (hF.free k (by simp))
        have hXN : X (N + k) = none := by
          cases e : X (N + k) with
          | none => rfl
          | some u => have := hlt (N + k) (by simp [e]); omega
        have hX1 : Beside X σ1 := fun r hr => fr.old r (by
          have := hlt r hr
          rintro (e | e)
          · omega
          · have : s.σ.next ≤ r := e; omega) (hX r hr)
        have heff := eff_ext (X := X) (p := protOf U ops.size k ⟨s.a, s.σ.ext X p, s.rd⟩) hC he hF.wf (hF.free k (by simp)) hX (fun r hr => by have := hlt r hr; show r < s.σ.next; omega) hXN (fun r hr => by
          show protOf U ops.size k s r = true
          unfold protOf at hr ⊢
          simp only [Bool.or_eq_true] at hr ⊢
          rcases hr with hr | hr
          · exact .inl (hp r hr)
          · exact .inr hr)
        have ht := steps_ext hC hlt hnd' hF1 hX1 (by exact hp) t
        refine .cons ⟨o, ho, hg, .inl ⟨hw, v, σ1.ext X (protOf U ops.size k ⟨s.a, s.σ.ext X p, s.rd⟩), rd, heff, rfl⟩⟩ ht
      · exact .cons ⟨o, ho, hg, .inr ⟨hw, rfl⟩⟩ (steps_ext hC hlt hnd' hF1 hX hp t)

theorem region_nodup {P : Program} {ops : Array Oper} {U : Nat → Nat → Bool} {ord : List Nat} {draw : Bool} (hord : if draw then regionOK P ops U ord = true else ord = List.range ops.size) : ord.Nodup ∧ ∀ k ∈ ord, k < ops.size := by
  cases draw with
  | false =>
    simp only [Bool.false_eq_true, if_false] at hord
    subst hord
    exact ⟨List.nodup_range, fun k hk => List.mem_range.1 hk⟩
  | true =>
    simp only [if_true] at hord
    unfold regionOK at hord
    simp only [Bool.and_eq_true, decide_eq_true_eq, List.all_eq_true] at hord
    obtain ⟨⟨_, hself⟩, hp⟩ := hord
    refine ⟨pairsB_nodup (fun x y h => by simp only [pairOK, Bool.and_eq_true, bne_iff_ne] at h; exact h.1.1) hp, fun k hk => ?_⟩
    have := hself k hk
    unfold selfOK at this
    cases hq : ops[k]? with
    | none => simp [hq] at this
    | some o => exact (Array.getElem?_eq_some_iff.1 hq).1

theorem region_fresh {ops : Array Oper} {a : Env} {σ : AS} (hwf : σ.wf) {l : List Nat} (hl : ∀ k ∈ l, k < ops.size) : Fresh ops.size σ.next l ⟨a, { σ with next := σ.next + ops.size }, fun _ _ => false⟩ :=
  ⟨fun r hr => hwf r (by have : σ.next + ops.size ≤ r := hr; omega), Nat.le_refl _, fun k _ => hwf _ (by omega), fun _ _ => rfl, hl⟩

theorem run_frames (hC : CProp C) {c : Code} {a a' : Env} {σ σ' : AS} {e : Exit} (h : Run P C c a σ e a' σ') : σ.wf → Frames (fun r => σ.next ≤ r) σ σ' ∧ σ'.wf := by
  have comp : ∀ {a b c : AS}, Frames (fun r => a.next ≤ r) a b → Frames (fun r => b.next ≤ r) b c → Frames (fun r => a.next ≤ r) a c := fun h k => h.trans (k.weak fun r hr => Nat.le_trans h.next hr)
  induction h with
  | skip => exact fun h => ⟨.refl _ _, h⟩
  | seqN _ _ i1 i2 => exact fun h => ⟨comp (i1 h).1 (i2 (i1 h).2).1, (i2 (i1 h).2).2⟩
  | seqE _ _ i => exact i
  | cond _ _ _ i => exact i
  | block _ i => exact i
  | loopN L _ _ i1 i2 => exact fun h => ⟨comp (i1 h).1 (i2 (i1 h).2).1, (i2 (i1 h).2).2⟩
  | loopE L _ _ i => exact i
  | exit => exact fun h => ⟨.refl _ _, h⟩
  | ret => exact fun h => ⟨.refl _ _, h⟩
  | @region id ops draw a a' σ σ' rd ord U hord h =>
    intro hwf
    obtain ⟨hnd, hl⟩ := region_nodup hord
    obtain ⟨h1, h2⟩ := steps_frames hC hnd (region_fresh hwf hl) h
    have hn : σ.next + ops.size ≤ σ'.next := h1.next
    exact ⟨⟨h1.prot, Nat.le_trans (Nat.le_add_right _ _) hn, h1.keep, h1.old⟩, h2⟩

theorem run_ext (hC : CProp C) {X : Nat → Option AObj} {p : Nat → Bool} {c : Code} {a a' : Env} {σ σ' : AS} {e : Exit} (h : Run P C c a σ e a' σ') : σ.wf → Beside X σ → (∀ r, X r ≠ none → r < σ.next) → (∀ r, p r = true → σ.prot r = true) →
    Run P C c a (σ.ext X p) e a' (σ'.ext X p) := by
  have next : ∀ {σ σ' : AS}, Frames (fun r => σ.next ≤ r) σ σ' → Beside X σ → (∀ r, X r ≠ none → r < σ.next) → (∀ r, p r = true → σ.prot r = true) → Beside X σ' ∧ (∀ r, X r ≠ none → r < σ'.next) ∧ (∀ r, p r = true → σ'.prot r = true) := by
    intro σ σ' h h1 h2 h3
    exact ⟨fun r hr => h.old r (by have := h2 r hr; omega) (h1 r hr), fun r hr => Nat.lt_of_lt_of_le (h2 r hr) h.next, fun r hr => by rw [h.prot]; exact h3 r hr⟩
  induction h with
  | skip => exact fun _ _ _ _ => .skip _ _
  | seqN h1 h2 i1 i2 =>
    intro hwf hX hlt hp
    obtain ⟨f, w⟩ := run_frames hC h1 hwf
    obtain ⟨k1, k2, k3⟩ := next f hX hlt hp
    exact .seqN (i1 hwf hX hlt hp) (i2 w k1 k2 k3)
  | seqE _ hne i => exact fun hwf hX hlt hp => .seqE (i hwf hX hlt hp) hne
  | cond t hc _ i => exact fun hwf hX hlt hp => .cond t hc (i hwf hX hlt hp)
  | block _ i => exact fun hwf hX hlt hp => .block (i hwf hX hlt hp)
  | loopN L h1 h2 i1 i2 =>
    intro hwf hX hlt hp
    obtain ⟨f, w⟩ := run_frames hC h1 hwf
    obtain ⟨k1, k2, k3⟩ := next f hX hlt hp
    exact .loopN L (i1 hwf hX hlt hp) (i2 w k1 k2 k3)
  | loopE L _ hne i => exact fun hwf hX hlt hp => .loopE L (i hwf hX hlt hp) hne
  | exit => exact fun _ _ _ _ => .exit _ _ _
  | ret => exact fun _ _ _ _ => .ret _ _
  | @region id ops draw a a' σ σ' rd ord U hord h =>
    intro hwf hX hlt hp
    obtain ⟨hnd, hl⟩ := region_nodup hord
    exact .region ord U hord (steps_ext (s := ⟨a, { σ with next := σ.next + ops.size }, fun _ _ => false⟩) hC hlt hnd (region_fresh hwf hl) hX hp h)
end

end Go.Corb

/- The abstract machine, part 19: runs are what the model does; calls. Conditions: none. -/
set_option linter.unusedVariables false
set_option linter.unusedSimpArgs false
namespace Go.Corb
open Go Go.RowKit

section
variable {P : Program} {C : CallRel}

/-- What stands behind a run. -/
structure Behind (B : Nat) (w0 : World) (ρ : RMap) (σ σ' : AS) (a' : Env) (d : List Deferred) (b' : Act) (w' : World) (ρ' : RMap) : Prop where
  defers : b'.defers = d
  ext : ρ.Ext ρ'
  low : ∀ r, r < σ.next → ρ' r = ρ r
  high : ∀ r, σ'.next ≤ r → ρ' r = none
  env : ER ρ' a' b'.tmps
  rel : Rel B w0 ρ' σ' w'

def Sim (P : Program) (code : Code) (a : Env) (σ : AS) (e : Exit) (a' : Env) (σ' : AS) (T : (Exit → Act → World → Prop) → Act → World → Prop) : Prop :=
  ∀ B w0 ρ (b : Act) w, Rel B w0 ρ σ w → ER ρ a b.tmps → (∀ r, σ.next ≤ r → ρ r = none) → ∀ Q : Exit → Act → World → Prop, (∀ b' w' ρ', Behind B w0 ρ σ σ' a' b.defers b' w' ρ' → Q e b' w') → T Q b w

theorem run_sound (hm : P.follows .mixedOrders = true) (hC : CProp C) (hS : CSound P C) {c : Code} {a a' : Env} {σ σ' : AS} {e : Exit} (h : Run P C c a σ e a' σ') : σ.wf →
    Sim P c a σ e a' σ' (fun Q b w => c.wp P Q b w) ∧ ∀ c', c = .loop c' → ∃ n, Sim P c a σ e a' σ' (fun Q b w => Code.rounds P c' Q n b w) := by
  have both : ∀ {c : Code} {a a' : Env} {σ σ' : AS} {e : Exit}, (∀ c', c ≠ .loop c') → Sim P c a σ e a' σ' (fun Q b w => c.wp P Q b w) →
      Sim P c a σ e a' σ' (fun Q b w => c.wp P Q b w) ∧ ∀ c', c = .loop c' → ∃ n, Sim P c a σ e a' σ' (fun Q b w => Code.rounds P c' Q n b w) := fun hn h => ⟨h, fun c' hc => absurd hc (hn c')⟩
  have chain : ∀ {B w0 ρ ρ1 ρ2} {σ σ1 σ2 : AS} {a1 a2 : Env} {d : List Deferred} {b1 b2 : Act} {w1 w2 : World}, σ.next ≤ σ1.next → Behind B w0 ρ σ σ1 a1 d b1 w1 ρ1 → Behind B w0 ρ1 σ1 σ2 a2 b1.defers b2 w2 ρ2 → Behind B w0 ρ σ σ2 a2 d b2 w2 ρ2 :=
    fun hle h k => ⟨k.defers.trans h.defers, h.ext.trans k.ext, fun r hr => (k.low r (Nat.lt_of_lt_of_le hr hle)).trans (h.low r hr), k.high, k.env, k.rel⟩
  induction h with
  | skip a σ => exact fun _ => both (by simp) fun B w0 ρ b w hR hE hh Q hQ => wp_skip (hQ b w ρ ⟨rfl, .refl _, fun _ _ => rfl, hh, hE, hR⟩)
  | exit id a σ => exact fun _ => both (by simp) fun B w0 ρ b w hR hE hh Q hQ => wp_exit (hQ b w ρ ⟨rfl, .refl _, fun _ _ => rfl, hh, hE, hR⟩)
  | ret a σ => exact fun _ => both (by simp) fun B w0 ρ b w hR hE hh Q hQ => wp_ret (hQ b w ρ ⟨rfl, .refl _, fun _ _ => rfl, hh, hE, hR⟩)
  | seqN h1 h2 i1 i2 =>
    intro hwf
    obtain ⟨f, hwf1⟩ := run_frames hC h1 hwf
    refine both (by simp) fun B w0 ρ b w hR hE hh Q hQ => wp_seq ?_
    refine (i1 hwf).1 B w0 ρ b w hR hE hh _ fun b1 w1 ρ1 hb => ?_
    exact (i2 hwf1).1 B w0 ρ1 b1 w1 hb.rel hb.env hb.high Q fun b2 w2 ρ2 hb2 => hQ b2 w2 ρ2 (chain f.next hb hb2)
  | @seqE x y a a1 σ σ1 e h1 hne i =>
    intro hwf
    refine both (by simp) fun B w0 ρ b w hR hE hh Q hQ => wp_seq ?_
    refine (i hwf).1 B w0 ρ b w hR hE hh _ fun b1 w1 ρ1 hb => ?_
    have := hQ b1 w1 ρ1 hb
    cases e <;> first | exact absurd rfl hne | exact this
  | @cond cn x y a a1 σ σ1 e t hc h i =>
    intro hwf
    refine both (by simp) fun B w0 ρ b w hR hE hh Q hQ => ?_
    have hv := hE.ev cn
    rw [hc] at hv
    exact wp_cond hv.bool_inv ((i hwf).1 B w0 ρ b w hR hE hh Q hQ)
  | @block id c a a1 σ σ1 e h i =>
    intro hwf
    refine both (by simp) fun B w0 ρ b w hR hE hh Q hQ => wp_block ?_
    refine (i hwf).1 B w0 ρ b w hR hE hh _ fun b1 w1 ρ1 hb => ?_
    have := hQ b1 w1 ρ1 hb
    cases e with
    | exit id' =>
      simp only [blockExit] at this
      simp only [Exit.inBlock]
      split
      · rename_i hid; rw [if_pos hid] at this; exact this
      · rename_i hid; rw [if_neg hid] at this; exact this
    | _ => exact this
  | @loopN L c a a1 a2 σ σ1 σ2 e h1 h2 i1 i2 =>
    intro hwf
    obtain ⟨f, hwf1⟩ := run_frames hC h1 hwf
    obtain ⟨n, hn⟩ := (i2 hwf1).2 c rfl
    have key : Sim P (.loop c) a σ e a2 σ2 (fun Q b w => Code.rounds P c Q (n + 1) b w) := by
      intro B w0 ρ b w hR hE hh Q hQ
      refine (i1 hwf).1 B w0 ρ b w hR (hE.restrict L) hh _ fun b1 w1 ρ1 hb => ?_
      exact hn B w0 ρ1 b1 w1 hb.rel hb.env hb.high Q fun b2 w2 ρ2 hb2 => hQ b2 w2 ρ2 (chain f.next hb hb2)
    refine ⟨fun B w0 ρ b w hR hE hh Q hQ => wp_loop_rounds (n + 1) (key B w0 ρ b w hR hE hh Q hQ), fun c' hc => ?_⟩
    injection hc with hc
    subst hc
    exact ⟨n + 1, key⟩
  | @loopE L c a a1 σ σ1 e h1 hne i =>
    intro hwf
    have key : Sim P (.loop c) a σ e a1 σ1 (fun Q b w => Code.rounds P c Q 1 b w) := by
      intro B w0 ρ b w hR hE hh Q hQ
      refine (i hwf).1 B w0 ρ b w hR (hE.restrict L) hh _ fun b1 w1 ρ1 hb => ?_
      have := hQ b1 w1 ρ1 hb
      cases e <;> first | exact absurd rfl hne | exact this
    refine ⟨fun B w0 ρ b w hR hE hh Q hQ => wp_loop_rounds 1 (key B w0 ρ b w hR hE hh Q hQ), fun c' hc => ?_⟩
    injection hc with hc
    subst hc
    exact ⟨1, key⟩
  | @region id ops draw a a' σ σ' rd ord U hord h =>
    intro hwf
    refine both (by simp) fun B w0 ρ b w hR hE hh Q hQ => ?_
    exact region_sim hm hC hS hord hwf h hR hE hh fun b' w' ρ' h1 h2 h3 h4 h5 h6 => hQ b' w' ρ' ⟨h1, h2, h3, h4, h5, h6⟩

/-! ### results, calls -/
def aResult (P : Program) (a : Env) (σ : AS) : ResultVar → Option Value
  | .tmp t => some (a.getD t undef)
  | .cell t ty => match a.getD t undef with
    | .pointer (some ⟨r, o, none⟩) => match σ.heap r with
      | some (.cells c _) => lPart P ty c o
      | _ => none
    | _ => none

def aResults (P : Program) (fn : Func) (a : Env) (σ : AS) : Option Value :=
  (fn.results.toList.mapM (aResult P a σ)).map fun vs => match vs with
    | [v] => v
    | vs => .tuple vs.toArray

/-- A function's own body, run. -/
def Body (P : Program) (C : CallRel) (f : FuncId) (args : List Value) (σ : AS) (v : Value) (σ' : AS) : Prop :=
  ∃ fn c e a', P.funcs[f]? = some fn ∧ fn.body = some c ∧ (fn.name == "runtime.NumGoroutine") = false ∧
    Run P C c (args.toArray ++ Array.replicate (fn.ntmps - args.length) undef) σ e a' σ' ∧ (e = .normal ∨ e = .ret) ∧ fn.results.size ≠ 0 ∧ aResults P fn a' σ' = some v

theorem aResult_ext {a : Env} {σ : AS} {X : Nat → Option AObj} {p : Nat → Bool} {r : ResultVar} {v : Value} (h : aResult P a σ r = some v) : aResult P a (σ.ext X p) r = some v := by
  unfold aResult at h ⊢
  split at h
  · exact h
  · split at h
    · rename_i r o ho
      try simp only [ho]
      split at h
      · rename_i c ro hr
        simp only [ext_some hr]; exact h
      · cases h
    · cases h

theorem mapM_ext {a : Env} {σ : AS} {X : Nat → Option AObj} {p : Nat → Bool} : ∀ {l : List ResultVar} {vs : List Value}, l.mapM (aResult P a σ) = some vs → l.mapM (aResult P a (σ.ext X p)) = some vs
  | [], vs, h => h
  | r :: l, vs, h => by
    simp only [List.mapM_cons, Option.bind_eq_bind, Option.pure_def] at h ⊢
    obtain ⟨v, hv, h⟩ := Option.bind_eq_some_iff.1 h
    obtain ⟨us, hus, h⟩ := Option.bind_eq_some_iff.1 h
    rw [aResult_ext hv, mapM_ext hus]
    exact h

theorem body_prop (hC : CProp C) : CProp (Body P C) := by
  refine ⟨?_, ?_⟩
  · rintro f args σ v σ' ⟨fn, c, e, a', _, _, _, h, _⟩ hwf
    exact run_frames hC h hwf
  · rintro f args σ v σ' X p ⟨fn, c, e, a', h1, h2, h3, h, he, hn, hr⟩ hwf hX hlt hp
    refine ⟨fn, c, e, a', h1, h2, h3, run_ext hC h hwf hX hlt hp, he, hn, ?_⟩
    unfold aResults at hr ⊢
    obtain ⟨vs, hvs, rfl⟩ := Option.map_eq_some_iff.1 hr
    rw [mapM_ext hvs]
    rfl

/-- One result variable, as the model reads it. -/
def resOne (tmps : Array Value) : ResultVar → Sem Value
  | .tmp t => pure (tmps.getD t undef)
  | .cell a t => do loadVar t (← asAddr (tmps.getD a undef))

theorem results_eq (fn : Func) (tmps : Array Value) : results fn tmps = (do let vs ← fn.results.mapM (resOne tmps); pure (if h : vs.size = 1 then vs[0] else .tuple vs)) := rfl

theorem result_run {B : Nat} {w0 w : World} {ρ : RMap} {σ : AS} (hR : Rel B w0 ρ σ w) {a : Env} {tmps : Array Value} (hE : ER ρ a tmps) {r : ResultVar} {v : Value} (h : aResult P a σ r = some v) :
    ∃ v', (resOne tmps r).run P w = .ok v' w ∧ VR ρ v v' := by
  unfold aResult at h
  split at h
  · rename_i t
    injection h with h
    subst h
    exact ⟨_, rfl, hE.2 t⟩
  · rename_i t ty
    split at h
    · rename_i r o ho
      split at h
      · rename_i c ro hr
        have hv := hE.2 t
        rw [ho] at hv
        generalize hy : tmps.getD t undef = y at hv
        cases hv with
        | sc _ hs => cases hs
        | ptr _ _ i hi =>
          obtain ⟨v', h1, h2⟩ := lPart_run hR hr hi h
          exact ⟨v', by simp [resOne, hy, asAddr, h1], h2⟩
      · cases h
    · cases h

theorem results_run {B : Nat} {w0 w : World} {ρ : RMap} {σ : AS} (hR : Rel B w0 ρ σ w) {a : Env} {tmps : Array Value} (hE : ER ρ a tmps) : ∀ (l : List ResultVar) (vs : List Value), l.mapM (aResult P a σ) = some vs →
    ∃ vs' : List Value, (l.mapM (resOne tmps)).run P w = .ok vs' w ∧ vs.length = vs'.length ∧ vs.length = l.length ∧ ∀ j, VR ρ (vs.getD j undef) (vs'.getD j undef)
  | [], vs, h => by
    simp at h
    subst h
    exact ⟨[], rfl, rfl, rfl, fun j => by simp; exact .und⟩
  | r :: l, vs, h => by
    simp only [List.mapM_cons, Option.bind_eq_bind, Option.pure_def] at h
    obtain ⟨v, hv, h⟩ := Option.bind_eq_some_iff.1 h
    obtain ⟨us, hus, h⟩ := Option.bind_eq_some_iff.1 h
    injection h with h
    subst h
    obtain ⟨v', h1, h2⟩ := result_run hR hE hv
    obtain ⟨us', g1, g2, g3, g4⟩ := results_run hR hE l us hus
    refine ⟨v' :: us', ?_, by simp [g2], by simp [g3], fun j => ?_⟩
    · simp only [List.mapM_cons, Sem.run_bind, h1, Result.andThen_ok, g1, Sem.run_pure]
    · cases j with
      | zero => simpa using h2
      | succ j => simpa using g4 j

theorem body_sound (hm : P.follows .mixedOrders = true) (hC : CProp C) (hS : CSound P C) : CSound P (Body P C) := by
  rintro f args σ v σ' ⟨fn, c, e, a', hf, hb, hname, h, he, hn, hr⟩ hwf B w0 ρ w args' hR hh hlen hargs
  left
  obtain ⟨fr, hwf'⟩ := run_frames hC h hwf
  have hE : ER ρ (args.toArray ++ Array.replicate (fn.ntmps - args.length) undef) (args' ++ Array.replicate (fn.ntmps - args'.size) undef) := by
    refine ⟨by simp [hlen], fun t => ?_⟩
    have := hargs t
    simp only [List.getD_eq_getElem?_getD, Array.getD_eq_getD_getElem?, Array.getElem?_append, List.size_toArray, List.getElem?_toArray, hlen] at this ⊢
    split
    · exact this
    · simp only [Array.getElem?_replicate]
      split <;> exact .und
  have hname' : ¬ fn.name = "runtime.NumGoroutine" := by simpa using hname
  refine ⟨by simp [callFunc, hf, hname', hb], ?_⟩
  refine calls_of_wp hf hb ?_
  refine (run_sound hm hC hS h hwf).1 B w0 ρ { tmps := args' ++ Array.replicate (fn.ntmps - args'.size) undef, defers := [] } w hR hE hh _ fun b' w' ρ' hbh => ?_
  unfold aResults at hr
  obtain ⟨vs, hvs, hv⟩ := Option.map_eq_some_iff.1 hr
  obtain ⟨vs', g1, g2, g3, g4⟩ := results_run hbh.rel hbh.env fn.results.toList vs hvs
  have hmap : (fn.results.mapM (resOne b'.tmps)).run P w' = .ok vs'.toArray w' := by
    rw [Array.mapM_eq_mapM_toList, Sem.run_map]
    exact congrArg (fun r => Result.andThen r fun (a : List Value) w'' => Result.ok a.toArray w'') g1
  have hres : ∃ v', (results fn b'.tmps).run P w' = .ok v' w' ∧ VR ρ' v v' := by
    rw [results_eq, Sem.run_bind, hmap, Result.andThen_ok]
    match vs, vs', g2, g3, g4, hv with
    | [], [], _, g3, _, _ => simp at g3; exact absurd g3.symm (by simpa using hn)
    | [u], [u'], _, _, g4, hv =>
      simp only at hv
      subst hv
      exact ⟨u', by simp, by simpa using g4 0⟩
    | u1 :: u2 :: us, x1 :: x2 :: xs, g2, _, g4, hv =>
      simp only at hv
      subst hv
      refine ⟨.tuple (x1 :: x2 :: xs).toArray, by simp, .tuple _ _ (by simp) (by simpa using g2) fun j => ?_⟩
      simpa [Array.getD_eq_getD_getElem?, List.getD_eq_getElem?_getD] using g4 j
    | [], _ :: _, g2, _, _, _ => simp at g2
    | [_], [], g2, _, _, _ => simp at g2
    | [_], _ :: _ :: _, g2, _, _, _ => simp at g2
    | _ :: _ :: _, [], g2, _, _, _ => simp at g2
    | _ :: _ :: _, [_], g2, _, _, _ => simp at g2
  obtain ⟨v', hv1, hv2⟩ := hres
  have hpost : ∃ v' ρ', Ending.returned v' = Ending.returned v' ∧ After B w0 ρ σ σ' v v' ρ' w' := ⟨v', ρ', rfl, hbh.ext, hbh.low, hbh.high, hv2, hbh.rel⟩
  rcases he with rfl | rfl
  · exact ⟨hbh.defers, v', hv1, v', ρ', rfl, hbh.ext, hbh.low, hbh.high, hv2, hbh.rel⟩
  · exact ⟨hbh.defers, v', hv1, v', ρ', rfl, hbh.ext, hbh.low, hbh.high, hv2, hbh.rel⟩

/-- Calls, to a depth; Base: functions whose contract is known otherwise. -/
def CallN (P : Program) (Base : CallRel) : Nat → CallRel
  | 0 => Base
  | n + 1 => fun f args σ v σ' => Base f args σ v σ' ∨ Body P (CallN P Base n) f args σ v σ'

theorem or_prop {C D : CallRel} (h : CProp C) (k : CProp D) : CProp (fun f args σ v σ' => C f args σ v σ' ∨ D f args σ v σ') :=
  ⟨fun hh hwf => hh.elim (fun a => h.frames a hwf) (fun a => k.frames a hwf), fun hh hwf h1 h2 h3 => hh.elim (fun a => .inl (h.ext a hwf h1 h2 h3)) (fun a => .inr (k.ext a hwf h1 h2 h3))⟩

theorem or_sound {C D : CallRel} (h : CSound P C) (k : CSound P D) : CSound P (fun f args σ v σ' => C f args σ v σ' ∨ D f args σ v σ') :=
  fun hh hwf B w0 ρ w args' a b c d => hh.elim (fun x => h x hwf B w0 ρ w args' a b c d) (fun x => k x hwf B w0 ρ w args' a b c d)

theorem callN_good (hm : P.follows .mixedOrders = true) {Base : CallRel} (hC : CProp Base) (hS : CSound P Base) : ∀ n, CProp (CallN P Base n) ∧ CSound P (CallN P Base n)
  | 0 => ⟨hC, hS⟩
  | n + 1 => ⟨or_prop hC (body_prop (callN_good hm hC hS n).1), or_sound hS (body_sound hm (callN_good hm hC hS n).1 (callN_good hm hC hS n).2)⟩

end

end Go.Corb

/- The abstract machine, part 20: calls to any depth; the conditions that a run is reckoned by. Conditions: none. -/
set_option linter.unusedVariables false
set_option linter.unusedSimpArgs false
namespace Go.Corb
open Go Go.RowKit

section
variable {P : Program} {C D : CallRel}

theorem eff_mono (h : ∀ f args σ v σ', C f args σ v σ' → D f args σ v σ') {a : Env} {N : Nat} {σ σ' : AS} {o : Op} {v : Value} {rd : List Nat} (he : Eff P C a N σ o v σ' rd) : Eff P D a N σ o v σ' rd := by
  unfold Eff at he ⊢
  split at he
  · exact he
  · exact he
  · exact he
  · exact he
  · obtain ⟨f, args, h1, h2, h3⟩ := he
    exact ⟨f, args, h1, h _ _ _ _ _ h2, h3⟩

theorem steps_mono (h : ∀ f args σ v σ', C f args σ v σ' → D f args σ v σ') {ops : Array Oper} {N : Nat} {U : Nat → Nat → Bool} {l : List Nat} {s s' : RS} (k : Steps' P C ops N U l s s') : Steps' P D ops N U l s s' := by
  induction k with
  | nil s => exact .nil s
  | cons h1 _ ih =>
    obtain ⟨o, ho, hg, h1⟩ := h1
    refine .cons ⟨o, ho, hg, ?_⟩ ih
    rcases h1 with ⟨hw, v, σ1, rd, he, e⟩ | h1
    · exact .inl ⟨hw, v, σ1, rd, eff_mono h he, e⟩
    · exact .inr h1

theorem run_mono (h : ∀ f args σ v σ', C f args σ v σ' → D f args σ v σ') {c : Code} {a a' : Env} {σ σ' : AS} {e : Exit} (k : Run P C c a σ e a' σ') : Run P D c a σ e a' σ' := by
  induction k with
  | skip => exact .skip _ _
  | seqN _ _ i1 i2 => exact .seqN i1 i2
  | seqE _ hne i => exact .seqE i hne
  | cond t hc _ i => exact .cond t hc i
  | block _ i => exact .block i
  | loopN L _ _ i1 i2 => exact .loopN L i1 i2
  | loopE L _ hne i => exact .loopE L i hne
  | exit => exact .exit _ _ _
  | ret => exact .ret _ _
  | region ord U hord k => exact .region ord U hord (steps_mono h k)

theorem body_mono (h : ∀ f args σ v σ', C f args σ v σ' → D f args σ v σ') {f : FuncId} {args : List Value} {σ σ' : AS} {v : Value} (k : Body P C f args σ v σ') : Body P D f args σ v σ' := by
  obtain ⟨fn, c, e, a', h1, h2, h3, hr, he, hn, hv⟩ := k
  exact ⟨fn, c, e, a', h1, h2, h3, run_mono h hr, he, hn, hv⟩

variable {Base : CallRel}
theorem callN_succ : ∀ (n : Nat) {f : FuncId} {args : List Value} {σ σ' : AS} {v : Value}, CallN P Base n f args σ v σ' → CallN P Base (n + 1) f args σ v σ'
  | 0, _, _, _, _, _, h => .inl h
  | n + 1, _, _, _, _, _, h => h.elim .inl fun h => .inr (body_mono (fun _ _ _ _ _ k => callN_succ n k) h)

theorem callN_le {m n : Nat} (hmn : m ≤ n) {f : FuncId} {args : List Value} {σ σ' : AS} {v : Value} (h : CallN P Base m f args σ v σ') : CallN P Base n f args σ v σ' := by
  induction hmn with
  | refl => exact h
  | step _ ih => exact callN_succ _ ih

def ACall (P : Program) (Base : CallRel) : CallRel := fun f args σ v σ' => ∃ n, CallN P Base n f args σ v σ'

theorem eff_level {a : Env} {N : Nat} {σ σ' : AS} {o : Op} {v : Value} {rd : List Nat} (he : Eff P (ACall P Base) a N σ o v σ' rd) : ∃ m, Eff P (CallN P Base m) a N σ o v σ' rd := by
  unfold Eff at he ⊢
  split at he
  · exact ⟨0, he⟩
  · exact ⟨0, he⟩
  · exact ⟨0, he⟩
  · exact ⟨0, he⟩
  · obtain ⟨f, args, h1, ⟨m, h2⟩, h3⟩ := he
    exact ⟨m, f, args, h1, h2, h3⟩

theorem steps_level {ops : Array Oper} {N : Nat} {U : Nat → Nat → Bool} {l : List Nat} {s s' : RS} (k : Steps' P (ACall P Base) ops N U l s s') : ∃ n, Steps' P (CallN P Base n) ops N U l s s' := by
  induction k with
  | nil s => exact ⟨0, .nil s⟩
  | cons h1 _ ih =>
    obtain ⟨n, ih⟩ := ih
    obtain ⟨o, ho, hg, h1⟩ := h1
    rcases h1 with ⟨hw, v, σ1, rd, he, e⟩ | h1
    · obtain ⟨m, hm⟩ := eff_level he
      refine ⟨max m n, .cons ⟨o, ho, hg, .inl ⟨hw, v, σ1, rd, eff_mono (fun _ _ _ _ _ => callN_le (Nat.le_max_left _ _)) hm, e⟩⟩ (steps_mono (fun _ _ _ _ _ => callN_le (Nat.le_max_right _ _)) ih)⟩
    · exact ⟨n, .cons ⟨o, ho, hg, .inr h1⟩ ih⟩

theorem run_level {c : Code} {a a' : Env} {σ σ' : AS} {e : Exit} (k : Run P (ACall P Base) c a σ e a' σ') : ∃ n, Run P (CallN P Base n) c a σ e a' σ' := by
  have up : ∀ {m n : Nat} {c : Code} {a a' : Env} {σ σ' : AS} {e : Exit}, m ≤ n → Run P (CallN P Base m) c a σ e a' σ' → Run P (CallN P Base n) c a σ e a' σ' := fun h k => run_mono (fun _ _ _ _ _ => callN_le h) k
  induction k with
  | skip => exact ⟨0, .skip _ _⟩
  | seqN _ _ i1 i2 =>
    obtain ⟨m, i1⟩ := i1
    obtain ⟨n, i2⟩ := i2
    exact ⟨max m n, .seqN (up (Nat.le_max_left _ _) i1) (up (Nat.le_max_right _ _) i2)⟩
  | seqE _ hne i => obtain ⟨m, i⟩ := i; exact ⟨m, .seqE i hne⟩
  | cond t hc _ i => obtain ⟨m, i⟩ := i; exact ⟨m, .cond t hc i⟩
  | block _ i => obtain ⟨m, i⟩ := i; exact ⟨m, .block i⟩
  | loopN L _ _ i1 i2 =>
    obtain ⟨m, i1⟩ := i1
    obtain ⟨n, i2⟩ := i2
    exact ⟨max m n, .loopN L (up (Nat.le_max_left _ _) i1) (up (Nat.le_max_right _ _) i2)⟩
  | loopE L _ hne i => obtain ⟨m, i⟩ := i; exact ⟨m, .loopE L i hne⟩
  | exit => exact ⟨0, .exit _ _ _⟩
  | ret => exact ⟨0, .ret _ _⟩
  | region ord U hord k => obtain ⟨n, k⟩ := steps_level k; exact ⟨n, .region ord U hord k⟩

theorem acall_body {f : FuncId} {args : List Value} {σ σ' : AS} {v : Value} (k : Body P (ACall P Base) f args σ v σ') : ACall P Base f args σ v σ' := by
  obtain ⟨fn, c, e, a', h1, h2, h3, hr, he, hn, hv⟩ := k
  obtain ⟨n, hr⟩ := run_level hr
  exact ⟨n + 1, .inr ⟨fn, c, e, a', h1, h2, h3, hr, he, hn, hv⟩⟩

theorem acall_base {f : FuncId} {args : List Value} {σ σ' : AS} {v : Value} (k : Base f args σ v σ') : ACall P Base f args σ v σ' := ⟨0, k⟩

theorem acall_prop (hm : P.follows .mixedOrders = true) (hC : CProp Base) (hS : CSound P Base) : CProp (ACall P Base) :=
  ⟨fun ⟨n, h⟩ hwf => (callN_good hm hC hS n).1.frames h hwf, fun ⟨n, h⟩ hwf h1 h2 h3 => ⟨n, (callN_good hm hC hS n).1.ext h hwf h1 h2 h3⟩⟩

theorem acall_sound (hm : P.follows .mixedOrders = true) (hC : CProp Base) (hS : CSound P Base) : CSound P (ACall P Base) :=
  fun ⟨n, h⟩ hwf B w0 ρ w args' a b c d => (callN_good hm hC hS n).2 h hwf B w0 ρ w args' a b c d
end

end Go.Corb
