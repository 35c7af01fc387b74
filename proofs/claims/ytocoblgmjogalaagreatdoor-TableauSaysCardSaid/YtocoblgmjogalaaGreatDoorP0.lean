/-
  A walk over the translated code as a function into propositions: the frame is a function from slots to values; pure operations reckon themselves; an operation with an effect leaves one named obligation. Own text of this workplace.
-/
import Derived.WalkKit
import Derived.RangeFuncLeaves
import Derived.OrdersIn
import Derived.RangeFuncSeq
import Derived.Orders
import Derived.Lib.Strings
set_option maxRecDepth 40000
set_option linter.unusedVariables false
set_option linter.unusedSimpArgs false
set_option linter.unusedSectionVars false
namespace Go.Au
open Go Go.RowKit

abbrev Env := Nat → Value
theorem beqf {a b : Nat} (h : ¬ a = b) : Nat.beq a b = false := by
  rw [← Bool.not_eq_true]; exact fun h' => h (Nat.eq_of_beq_eq_true h')
def upd (e : Env) (d : Nat) (v : Value) : Env := fun i => cond (Nat.beq i d) v (e i)
def putE (e : Env) : Option Nat → Value → Env
  | some d, v => upd e d v
  | none, _ => e
/-- where the frame's marks are told: a slot beyond all frames -/
def mark : Nat := 1000000
def dsN : Value → List Nat
  | .tuple vs => vs.toList.map fun | .map (some d) => d | _ => 0
  | _ => []
def dsOf (v : Value) : List Deferred := (dsN v).map fun d => { target := .collected d, args := #[] }
def pushD (d : Nat) : Value → Value
  | .tuple vs => .tuple (#[.map (some d)] ++ vs)
  | _ => .tuple #[.map (some d)]
theorem dsN_push (d : Nat) (v : Value) : dsN (pushD d v) = d :: dsN v := by
  cases v <;> simp [pushD, dsN]
/-- the frame of n slots that holds e -/
def ag (n : Nat) (ds : List Deferred) (e : Env) : Act := { tmps := ((List.range n).map e).toArray, defers := dsOf (e mark) ++ ds }

theorem ag_get {n ds e t} (h : Nat.blt t n = true) : (ag n ds e).tmps.getD t undef = e t := by
  have ht : t < n := by simpa [Nat.blt_eq] using h
  simp [ag, Array.getD, ht]

/-- a slot that may be written -/
def okD : Option Nat → Bool
  | some d => Nat.blt d mark
  | none => true
theorem putE_mark {e : Env} {d : Option Nat} (h : okD d = true) (v : Value) : putE e d v mark = e mark := by
  cases d with
  | none => rfl
  | some d =>
    have hd : d < mark := by simpa [okD, Nat.blt_eq] using h
    simp only [putE, upd, beqf (show ¬ mark = d by omega), cond_false]

theorem ag_put (n : Nat) (ds : List Deferred) (e : Env) (d : Option Nat) (h : okD d = true) (v : Value) : (ag n ds e).put d v = ag n ds (putE e d v) := by
  have hm := putE_mark (e := e) h v
  cases d with
  | none => rfl
  | some d =>
    simp only [Act.put, ag, hm]
    congr 1
    apply Array.ext
    · simp
    · intro i h1 h2
      simp at h1
      by_cases h : i = d
      · subst h; simp [upd, putE]
      · have : Nat.beq i d = false := beqf h
        simp [upd, putE, this, Array.getElem_setIfInBounds, Ne.symm h]

/-- what an operand is -/
def ev (e : Env) : Operand → Value
  | .tmp t => e t
  | .const v => v
  | .global g => .pointer (some ⟨g, 0, none⟩)
  | .func f => .func (.func f) #[] #[]

def okX (n : Nat) : Operand → Bool
  | .tmp t => Nat.blt t n
  | _ => true

theorem ag_eval {n ds e x} (h : okX n x = true) : (ag n ds e).eval x = ev e x := by
  cases x with
  | tmp t => exact ag_get h
  | _ => rfl

/-- what a walk knows of a type -/
structure TI where
  desc : TypeDesc
  size : Nat
  bytes : Nat
  zero : Value

def look : List (Nat × TI) → Nat → Option TI
  | [], _ => none
  | (a, x) :: r, t => cond (Nat.beq t a) (some x) (look r t)

def TIok (P : Program) (p : Nat × TI) : Prop :=
  P.underlying p.1 = some p.2.desc ∧ (P.info? p.1).map (fun i => (i.zero, i.size, i.bytes)) = some (some p.2.zero, p.2.size, p.2.bytes) ∧ p.2.zero.cells.size = p.2.size

/-- the table is the program's -/
def Agree (P : Program) (Γ : List (Nat × TI)) : Prop := ∀ p ∈ Γ, TIok P p

theorem Agree.look {P Γ} (h : Agree P Γ) {t ti} (hl : look Γ t = some ti) : TIok P (t, ti) := by
  induction Γ with
  | nil => simp [Au.look] at hl
  | cons p r ih =>
    obtain ⟨a, x⟩ := p
    simp only [Au.look] at hl
    cases hb : Nat.beq t a with
    | false => rw [hb] at hl; exact ih (fun p hp => h p (List.mem_cons_of_mem _ hp)) hl
    | true =>
      rw [hb] at hl
      simp only [cond_true, Option.some.injEq] at hl
      subst hl
      rw [Nat.eq_of_beq_eq_true hb]
      exact h _ List.mem_cons_self

theorem TIok.info {P t ti} (h : TIok P (t, ti)) : ∃ i, P.info? t = some i ∧ i.zero = some ti.zero ∧ i.size = ti.size ∧ i.bytes = ti.bytes := info_parts h.2.1

/-! ### obligations -/
structure NewB (w : World) (b : Nat) (o : Obj) (w' : World) : Prop where
  base : w.heap.size = b
  eq : w' = w.alloc o

/-- a new block -/
structure New (w : World) (o : Obj) (K : Nat → World → Prop) : Prop where
  h : ∀ b w', NewB w b o w' → K b w'
/-- a test parts the ways -/
structure Split (p : Prop) (K : Bool → Prop) : Prop where
  t : p → K true
  f : ¬ p → K false
/-- a number is reckoned -/
structure Ar (z : Int) (K : Int → Prop) : Prop where
  h : ∀ x, z = x → K x
/-- something must hold -/
structure Need (p : Prop) (K : Prop) : Prop where
  l : p
  r : K
/-- a value is loaded -/
structure Ld (P : Program) (t : TypeId) (a : Value) (w : World) (K : Value → Prop) : Prop where
  h : ∃ v, (Instr.loadAt t a).run P w = .ok v w ∧ K v
/-- a value is stored -/
structure St (P : Program) (t : TypeId) (a v : Value) (w : World) (K : World → Prop) : Prop where
  h : ∃ w', (Instr.storeAt t a v).run P w = .ok () w' ∧ K w'
/-- whatever else is run -/
structure Run (P : Program) (s : Sem Value) (w : World) (K : Value → World → Prop) : Prop where
  h : ∃ v w', s.run P w = .ok v w' ∧ K v w'
structure RunU (P : Program) (s : Sem Unit) (w : World) (K : World → Prop) : Prop where
  h : ∃ w', s.run P w = .ok () w' ∧ K w'
/-- a call comes back -/
def Ret (R : Value → World → Prop) : Ending → World → Prop
  | .returned v, w => R v w
  | _, _ => False
def callable (P : Program) (g : FuncId) : Bool := match P.funcs[g]? with
  | some fn => !(fn.name == "runtime.NumGoroutine") && fn.body.isSome
  | none => false
structure Call (P : Program) (g : FuncId) (args : List Value) (w : World) (K : Value → World → Prop) : Prop where
  l : callable P g = true
  r : Calls P g args.toArray w (Ret K)
/-- an operation that is walked by its own law -/
structure Raw (P : Program) (ρ : Operand → Value) (o : Oper) (w : World) (K : Value → World → Prop) : Prop where
  h : ∃ v w', (execOp ρ o).run P w = .ok (.value v) w' ∧ K v w'

/-- a value, whatever the world -/
def Pure (P : Program) (ρ : Operand → Value) (o : Oper) (v : Value) : Prop := ∀ W, (execOp ρ o).run P W = .ok (.value v) W
/-- an operation that neither reads nor writes memory is walked by its own law -/
structure PR (P : Program) (ρ : Operand → Value) (o : Oper) (K : Value → Prop) : Prop where
  h : ∃ v, Pure P ρ o v ∧ K v
/-- the loop's body is handed a value -/
structure Yield (P : Program) (l : Nat) (args : List Value) (w : World) (K : Value → World → Prop) : Prop where
  r : YieldAt Fence.wide 0 P l args.toArray w (Ret K)
def kq : IntKind → Nat | .i8 => 0 | .i16 => 1 | .i32 => 2 | .i64 => 3 | .u8 => 4 | .u16 => 5 | .u32 => 6 | .u64 => 7
theorem kq_inj {a b : IntKind} (h : Nat.beq (kq a) (kq b) = true) : a = b := by cases a <;> cases b <;> first | rfl | (simp [kq] at h)

def nth : List Value → Nat → Option Value
  | [], _ => none
  | v :: _, 0 => some v
  | _ :: r, n + 1 => nth r n
theorem nth_eq (l : List Value) : ∀ i, nth l i = l[i]? := by
  induction l with
  | nil => intro i; rfl
  | cons v r ih => intro i; cases i with
    | zero => rfl
    | succ i => simpa [nth] using ih i

theorem add_none (b o n : Nat) : (⟨b, o, none⟩ : Addr).add n = ⟨b, o + n, none⟩ := by
  unfold Addr.add
  split
  · rename_i h; subst h; rfl
  · rfl

/-- where a field begins, and how many cells it has -/
def fldL (Γ : List (Nat × TI)) : List Field → Nat → Option (Nat × Nat × TypeId)
  | [], _ => none
  | f :: _, 0 => match look Γ f.type with | some ti => some (f.offset, ti.size, f.type) | none => none
  | _ :: r, n + 1 => fldL Γ r n
def fld (Γ : List (Nat × TI)) (s : TypeId) (i : Nat) : Option (Nat × Nat × TypeId) := match look Γ s with
  | some ti => match ti.desc with
    | .struct fs => fldL Γ fs.toList i
    | _ => none
  | none => none

def isAggD : TypeDesc → Bool
  | .struct _ => true
  | .array _ _ => true
  | _ => false

/-- parts laid into cells -/
def lay : List Value → Nat → List Value → List Value
  | cs, _, [] => cs
  | cs, o, v :: r => lay (cs.set o v) (o + 1) r

def cellsL : Value → List Value
  | .agg cs => cs.toList
  | v => [v]

def allF (Γ : List (Nat × TI)) : List Field → Bool
  | [] => true
  | f :: r => match look Γ f.type with | some _ => allF Γ r | none => false

def fillFN (Γ : List (Nat × TI)) (fs : List Field) (e : Env) (n : Nat) : List Value → List (Nat × Operand) → Option (List Value)
  | cs, [] => some cs
  | cs, (i, x) :: r => match fldL Γ fs i with
    | some (off, size, _) => cond (Nat.beq (cellsL (ev e x)).length size && Nat.ble (off + size) n) (fillFN Γ fs e n (lay cs off (cellsL (ev e x))) r) none
    | none => none
def fillF (Γ : List (Nat × TI)) (fs : List Field) (e : Env) (cs : List Value) (ps : List (Nat × Operand)) : Option (List Value) := fillFN Γ fs e cs.length cs ps

def fillAN (size : Nat) (e : Env) (n : Nat) : List Value → List (Nat × Operand) → Option (List Value)
  | cs, [] => some cs
  | cs, (i, x) :: r => cond (Nat.beq (cellsL (ev e x)).length size && Nat.ble (i * size + size) n) (fillAN size e n (lay cs (i * size) (cellsL (ev e x))) r) none
def fillA (size : Nat) (e : Env) (cs : List Value) (ps : List (Nat × Operand)) : Option (List Value) := fillAN size e cs.length cs ps

def rep (z : List Value) : Nat → List Value
  | 0 => []
  | n + 1 => z ++ rep z n

/-- is it an operation that neither reads nor writes memory? -/
def isPure : Op → Bool
  | .move _ | .assign _ | .pick .. | .extract .. | .unOp .. | .makeFunc .. | .nilCheck _ | .fieldAddr .. | .binOp .. | .convert .. | .build .. | .indexAddr .. | .slice .. | .index .. | .field .. | .makeInterface .. | .typeAssert .. => true
  | .call c => match c.callee with
    | .builtin .len => match c.argTypes.toList with
      | [_] => true
      | _ => false
    | .builtin .cap => true
    | _ => false
  | _ => false

/-- cells that '==' compares one by one -/
def eqOk (Γ : List (Nat × TI)) : List Field → List Value → List Value → Bool
  | [], [], [] => true
  | f :: r, x :: xs, y :: ys => match look Γ f.type with
    | some ti => (match ti.desc, x, y with
      | .int _, .int k _, .int k' _ => Nat.beq (kq k) (kq k')
      | .bool, .bool _, .bool _ => true
      | .string, .string _, .string _ => true
      | _, _, _ => false) && !(f.name == "_") && eqOk Γ r xs ys
    | none => false
  | _, _, _ => false
/-- each field is one cell, one behind another -/
def offsOk : List Field → Nat → Bool
  | [], _ => true
  | f :: r, k => Nat.beq f.offset k && offsOk r (k + 1)
def bnd (e : Env) (x : Option Operand) (d : Int) : Option Int := match x with
  | none => some d
  | some x => match ev e x with
    | .int _ i => some i
    | _ => none
def moved (a : Option Addr) (o : Nat) : Option Addr := match o with
  | 0 => a
  | o => a.map (·.add o)
/-- one operation that neither reads nor writes memory; raw: what is not told here -/
def opP (P : Program) (Γ : List (Nat × TI)) (e : Env) (o : Oper) (raw : Prop) (K : Value → Prop) : Prop := match o.op with
  | .move x | .assign x => K (ev e x)
  | .pick c a b => match ev e c with
    | .bool true => K (ev e a)
    | .bool false => K (ev e b)
    | _ => False
  | .extract t i => match ev e t with
    | .tuple vs => match nth vs.toList i with
      | some v => K v
      | none => False
    | _ => False
  | .unOp op _ x => match op, ev e x with
    | .not, .bool b => K (.bool (!b))
    | .neg, .int k a => Ar (k.wrap (-a)) fun z => K (.int k z)
    | _, _ => PR P (ev e) o K
  | .makeFunc fn first cap => K (.func fn (first.toList.map (ev e)).toArray (cap.toList.map (ev e)).toArray)
  | .nilCheck x => match ev e x with
    | .pointer (some a) => K (.pointer (some a))
    | _ => PR P (ev e) o K
  | .fieldAddr s x f => match ev e x, fld Γ s f with
    | .pointer (some ⟨b, o1, none⟩), some (off, _ + 1, _) => K (.pointer (some ⟨b, o1 + off, none⟩))
    | _, _ => PR P (ev e) o K
  | .binOp op t x y _ => match ev e x, ev e y with
    | .int k a, .int k' b => match op with
      | .shl => Need (0 ≤ b) (Ar (k.wrap (a * 2 ^ (min b.toNat k.bits))) fun z => K (.int k z))
      | .shr => Need (0 ≤ b) (Ar (a.fdiv (2 ^ (min b.toNat k.bits))) fun z => K (.int k z))
      | .add => cond (Nat.beq (kq k) (kq k')) (Ar (k.wrap (a + b)) fun z => K (.int k z)) False
      | .sub => cond (Nat.beq (kq k) (kq k')) (Ar (k.wrap (a - b)) fun z => K (.int k z)) False
      | .mul => cond (Nat.beq (kq k) (kq k')) (Ar (k.wrap (a * b)) fun z => K (.int k z)) False
      | .quo => cond (Nat.beq (kq k) (kq k')) (Need (b ≠ 0) (Ar (k.wrap (a.tdiv b)) fun z => K (.int k z))) False
      | .rem => cond (Nat.beq (kq k) (kq k')) (Need (b ≠ 0) (Ar (a.tmod b) fun z => K (.int k z))) False
      | .and => cond (Nat.beq (kq k) (kq k')) (Ar (bits .and k a b) fun z => K (.int k z)) False
      | .or => cond (Nat.beq (kq k) (kq k')) (Ar (bits .or k a b) fun z => K (.int k z)) False
      | .xor => cond (Nat.beq (kq k) (kq k')) (Ar (bits .xor k a b) fun z => K (.int k z)) False
      | .andNot => cond (Nat.beq (kq k) (kq k')) (Ar (bits .andNot k a b) fun z => K (.int k z)) False
      | .eql => cond (Nat.beq (kq k) (kq k')) (Split (a = b) fun z => K (.bool z)) False
      | .neq => cond (Nat.beq (kq k) (kq k')) (Split (¬ a = b) fun z => K (.bool z)) False
      | .lss => cond (Nat.beq (kq k) (kq k')) (Split (a < b) fun z => K (.bool z)) False
      | .leq => cond (Nat.beq (kq k) (kq k')) (Split (a ≤ b) fun z => K (.bool z)) False
      | .gtr => cond (Nat.beq (kq k) (kq k')) (Split (b < a) fun z => K (.bool z)) False
      | .geq => cond (Nat.beq (kq k) (kq k')) (Split (b ≤ a) fun z => K (.bool z)) False
    | .string a, .string b => match op with
      | .eql => Split (a = b) fun z => K (.bool z)
      | .neq => Split (¬ a = b) fun z => K (.bool z)
      | .add => Need (((a.size + b.size : Nat) : Int) ≤ 9223372036854775807) (K (.string (a ++ b)))
      | _ => PR P (ev e) o K
    | .bool a, .bool b => match op, look Γ t with
      | .eql, some ti => match ti.desc with
        | .bool => Split (a = b) fun z => K (.bool z)
        | _ => PR P (ev e) o K
      | .neq, some ti => match ti.desc with
        | .bool => Split (¬ a = b) fun z => K (.bool z)
        | _ => PR P (ev e) o K
      | _, _ => PR P (ev e) o K
    | .agg asn, .agg bs => match op with
      | .eql => match look Γ t with
        | some ti => match ti.desc with
          | .struct fs => cond (eqOk Γ fs.toList asn.toList bs.toList && offsOk fs.toList 0) (Need (P.stoodInHeld t = false ∧ P.eqGuardType P.depth t = false) (Split (asn = bs) fun z => K (.bool z))) (PR P (ev e) o K)
          | _ => PR P (ev e) o K
        | none => PR P (ev e) o K
      | .neq => match look Γ t with
        | some ti => match ti.desc with
          | .struct fs => cond (eqOk Γ fs.toList asn.toList bs.toList && offsOk fs.toList 0) (Need (P.stoodInHeld t = false ∧ P.eqGuardType P.depth t = false) (Split (¬ asn = bs) fun z => K (.bool z))) (PR P (ev e) o K)
          | _ => PR P (ev e) o K
        | none => PR P (ev e) o K
      | _ => PR P (ev e) o K
    | _, _ => PR P (ev e) o K
  | .slice t x lo hi mx => match mx, look Γ t, ev e x with
    | none, some ti, .slice a len cap => match ti.desc with
      | .slice el => match look Γ el, bnd e lo 0, bnd e hi (len : Int) with
        | some tj, some l, some h => Need (0 ≤ l ∧ l ≤ h ∧ h ≤ (cap : Int)) (match lo with
          | none => K (.slice a h.toNat cap)
          | some _ => K (.slice (if cap = l.toNat then a else a.map (·.add (l.toNat * tj.size))) (h.toNat - l.toNat) (cap - l.toNat)))
        | _, _, _ => PR P (ev e) o K
      | _ => PR P (ev e) o K
    | none, some ti, .string s => match ti.desc with
      | .string => match bnd e lo 0, bnd e hi (s.size : Int) with
        | some l, some h => Need (0 ≤ l ∧ l ≤ h ∧ h ≤ (s.size : Int)) (K (.string (s.extract l.toNat h.toNat)))
        | _, _ => PR P (ev e) o K
      | _ => PR P (ev e) o K
    | _, _, _ => PR P (ev e) o K
  | .index .. => PR P (ev e) o K
  | .field .. => PR P (ev e) o K
  | .makeInterface .. => PR P (ev e) o K
  | .typeAssert .. => PR P (ev e) o K
  | .convert src dst x => match look Γ src, look Γ dst, ev e x with
    | some _, some ti, .int _ a => match ti.desc with
      | .int k' => Ar (k'.wrap a) fun z => K (.int k' z)
      | _ => raw
    | _, _, _ => raw
  | .build t parts => match look Γ t with
    | some ti => match ti.desc with
      | .struct fs => match allF Γ fs.toList, fillF Γ fs.toList e (cellsL ti.zero) parts.toList with
        | true, some cs => K (.agg cs.toArray)
        | _, _ => False
      | _ => PR P (ev e) o K
    | none => False
  | .indexAddr t x i => match look Γ t, ev e x, ev e i with
    | some ti, .slice (some ⟨b, o1, none⟩) len _, .int _ j => match ti.desc with
      | .slice el => match look Γ el with
        | some tj => Need (0 ≤ j ∧ j < (len : Int)) (K (.pointer (some ⟨b, o1 + j.toNat * tj.size, none⟩)))
        | none => False
      | _ => PR P (ev e) o K
    | _, _, _ => PR P (ev e) o K
  | .call c => match c.callee with
    | .builtin .len => match c.args.toList, c.argTypes.toList with
      | [x], [t] => match look Γ t, ev e x with
        | some ti, .slice _ m _ => match ti.desc with
          | .slice _ => K (.int .i64 m)
          | _ => raw
        | some ti, .string s => match ti.desc with
          | .string => K (.int .i64 s.size)
          | _ => raw
        | _, _ => raw
      | _, _ => raw
    | .builtin .cap => match c.args.toList, c.argTypes.toList with
      | [x], [t] => match look Γ t, ev e x with
        | some ti, .slice _ _ m => match ti.desc with
          | .slice _ => K (.int .i64 m)
          | _ => raw
        | _, _ => raw
      | _, _ => raw
    | _ => raw
  | _ => raw

/-- one operation -/
def op1 (P : Program) (Γ : List (Nat × TI)) (e : Env) (o : Oper) (w : World) (K : Value → World → Prop) : Prop := match isPure o.op with
  | true => opP P Γ e o (Raw P (ev e) o w K) fun v => K v w
  | false => match o.op with
    | .load t a => Ld P t (ev e a) w fun v => K v w
    | .store t a x => St P t (ev e a) (ev e x) w fun w' => K undef w'
    | .alloc t => match look Γ t with
      | some ti => New w (.cells (cellsL ti.zero).toArray t) fun b w' => K (.pointer (some ⟨b, 0, none⟩)) w'
      | none => False
    | .box t x => New w (.cells (cellsL (ev e x)).toArray t) fun b w' => K (.pointer (some ⟨b, 0, none⟩)) w'
    | .makeMap _ none => New w (.map #[] 0) fun b w' => K (.map (some b)) w'
    | .buildSlice t len parts => match look Γ t with
      | some ti => match ti.desc with
        | .slice el => match look Γ el with
          | some tj => match fillA tj.size e (rep (cellsL tj.zero) len) parts.toList with
            | some cs => Need (len * tj.size ≤ 16777216) (New w (.cells cs.toArray el) fun b w' => K (.slice (some ⟨b, 0, none⟩) len len) w')
            | none => False
          | none => False
        | _ => False
      | none => False
    | .call c => match c.callee with
      | .value f => match ev e f with
        | .func (.func g) first cap => Call P g (first.toList ++ c.args.toList.map (ev e) ++ cap.toList) w K
        | .func (.yield l) first _ => Yield P l (first.toList ++ c.args.toList.map (ev e)) w K
        | _ => Raw P (ev e) o w K
      | _ => Raw P (ev e) o w K
    | .mapUpdate t m k v => RunU P (Instr.mapUpdate t (ev e m) (ev e k) (ev e v)) w fun w' => K undef w'
    | .entryStore t m s v => RunU P (Instr.entryStore t (ev e m) (ev e s) (ev e v)) w fun w' => K undef w'
    | .lookup t m k ok => Run P (Instr.lookup t (ev e m) (ev e k) ok) w K
    | .mapEntry t m k => Run P (Instr.mapEntry t (ev e m) (ev e k)) w K
    | _ => Raw P (ev e) o w K

def gslot : List Oper → Nat → Option Nat
  | [], _ => none
  | o :: _, 0 => o.dst
  | _ :: r, n + 1 => gslot r n

def grd (ops : List Oper) (e : Env) (o : Oper) (run skip : Prop) : Prop := match o.guard with
  | none => run
  | some (j, b) => match gslot ops j with
    | some s => match e s, b with
      | .bool true, true => run
      | .bool true, false => skip
      | .bool false, true => skip
      | .bool false, false => run
      | .tuple _, _ => skip
      | _, _ => False
    | none => False

/-- operations in a row -/
noncomputable def VCl (P : Program) (Γ : List (Nat × TI)) (ops : List Oper) (Q : Env → World → Prop) (l : List Oper) : Env → World → Prop :=
  List.rec (motive := fun _ => Env → World → Prop) (fun e w => Q e w)
    (fun o _ ih e w => grd ops e o (op1 P Γ e o w fun v w' => ih (putE e o.dst v) w') (ih (putE e o.dst undef) w)) l
theorem VCl_nil (P : Program) (Γ : List (Nat × TI)) (ops : List Oper) (Q : Env → World → Prop) (e : Env) (w : World) : VCl P Γ ops Q [] e w = Q e w := rfl
theorem VCl_cons (P : Program) (Γ : List (Nat × TI)) (ops : List Oper) (Q : Env → World → Prop) (o : Oper) (rest : List Oper) (e : Env) (w : World) :
    VCl P Γ ops Q (o :: rest) e w = grd ops e o (op1 P Γ e o w fun v w' => VCl P Γ ops Q rest (putE e o.dst v) w') (VCl P Γ ops Q rest (putE e o.dst undef) w) := rfl

def lift (n : Nat) (ds : List Deferred) (Q : Exit → Env → World → Prop) : Exit → Act → World → Prop :=
  fun x a w => ∃ e, a = ag n ds e ∧ Q x e w

/-- anything goes; rd: in a round of a range over a function -/
def fen (rd : Option Nat) : Fence := { Fence.wide with round := rd }
def WC (P : Program) (n : Nat) (ds : List Deferred) (rd : Option Nat) (c : Code) (Q : Exit → Env → World → Prop) (e : Env) (w : World) : Prop :=
  c.wpIn (fen rd) 0 P (lift n ds Q) (ag n ds e) w

def isSel : Op → Bool
  | .select .. => true
  | _ => false
def isDef : Op → Bool
  | .defer .. => true
  | _ => false
def okO (n : Nat) (o : Oper) : Bool := o.op.operands.toList.all (okX n) && !(isSel o.op) && okD o.dst && !(isDef o.op)
def okOps (n : Nat) (l : List Oper) : Bool := l.all fun o => okO n o && (match o.guard with
  | some (j, _) => match gslot l j with | some s => Nat.blt s n | none => false
  | none => true)

def okC (n : Nat) : Code → Bool
  | .region _ ops _ => okOps n ops.toList
  | .seq a b => okC n a && okC n b
  | .cond c a b => okX n c && okC n a && okC n b
  | .block _ c => okC n c
  | .loop c => okC n c
  | .rangeFunc f ps a b => okX n f && okC n a && okC n b && (ps.toList.all fun t => Nat.blt t mark) && Nat.ble n mark
  | .scope c => okC n c
  | _ => true

/-- a piece of code that is walked by a rule of its own -/
def Piece (P : Program) (n : Nat) (ds : List Deferred) (rd : Option Nat) (c : Code) (K : Exit → Env → World → Prop) (e : Env) (w : World) : Prop :=
  okC n c = true → WC P n ds rd c K e w

noncomputable def VCC (P : Program) (Γ : List (Nat × TI)) (n : Nat) (ds : List Deferred) (rd : Option Nat) (c : Code) : (Exit → Env → World → Prop) → Env → World → Prop :=
  Code.rec (motive := fun _ => (Exit → Env → World → Prop) → Env → World → Prop)
    (fun K e w => K .normal e w)
    (fun id ops draw K e w => cond draw (Piece P n ds rd (.region id ops draw) K e w) (VCl P Γ ops.toList (K .normal) ops.toList e w))
    (fun _ _ iha ihb K e w => iha (fun x e w => match x with
      | .normal => ihb K e w
      | x => K x e w) e w)
    (fun c _ _ iha ihb K e w => match ev e c with
      | .bool true => iha K e w
      | .bool false => ihb K e w
      | _ => False)
    (fun id _ ih K e w => ih (fun x e w => match x with
      | .exit i => cond (Nat.beq i id) (K .normal e w) (K (.exit i) e w)
      | x => K x e w) e w)
    (fun c _ K e w => Piece P n ds rd (.loop c) K e w)
    (fun f ps a b _ _ K e w => Piece P n ds rd (.rangeFunc f ps a b) K e w)
    (fun i K e w => K (.exit i) e w)
    (fun c _ K e w => Piece P n ds rd (.scope c) K e w)
    (fun _ K e w => K .normal e w)
    (fun l K e w => Piece P n ds rd (.goto l) K e w)
    (fun K e w => K .ret e w)
    (fun s K e w => Piece P n ds rd (.refuse s) K e w) c

end Go.Au

namespace Go.Au
open Go Go.RowKit

/-- what an operation does: a value, nothing, a call, or a round of a loop -/
def Does (P : Program) (ρ : Operand → Value) (o : Oper) (w : World) (K : Value → World → Prop) : Prop :=
  (∃ v w', (execOp ρ o).run P w = .ok (.value v) w' ∧ K v w') ∨ (∃ w', (execOp ρ o).run P w = .ok .skip w' ∧ K undef w') ∨
  (∃ g args, (execOp ρ o).run P w = .ok (.enter g args) w ∧ Calls P g args w (Ret K)) ∨
  (∃ l f tmps assign body, (execOp ρ o).run P w = .ok (.round l f tmps assign body) w ∧ RoundIn Fence.wide 0 P l f tmps assign body w (Ret K))

theorem Does.mono {P ρ o w} {K K' : Value → World → Prop} (h : Does P ρ o w K) (hk : ∀ v w', K v w' → K' v w') : Does P ρ o w K' := by
  have hr : ∀ e w', Ret K e w' → Ret K' e w' := fun e w' hr => by cases e <;> first | exact hk _ _ hr | exact hr
  rcases h with ⟨v, w', h, k⟩ | ⟨w', h, k⟩ | ⟨g, args, h, k⟩ | ⟨l, f, t, a, b, h, k⟩
  · exact .inl ⟨v, w', h, hk _ _ k⟩
  · exact .inr (.inl ⟨w', h, hk _ _ k⟩)
  · exact .inr (.inr (.inl ⟨g, args, h, k.mono hr⟩))
  · exact .inr (.inr (.inr ⟨l, f, t, a, b, h, k.mono hr⟩))

theorem Does.upon {P o w} {rd : Option Nat} {K : Value → World → Prop} {a : Act} {next : Act → World → Prop} {Q : Exit → Act → World → Prop} (h : Does P a.eval o w K) (hd : ∀ c, o.op ≠ .defer c)
    (hk : ∀ v w', K v w' → next (a.put o.dst v) w') : o.wpIn (fen rd) 0 P a w next Q := by
  refine ⟨fun _ _ => trivial, ?_⟩
  rw [Oper.semAt_eq _ _ _ hd]
  have hdep : (fen rd).depth.isSome = true → 1 ≤ 0 := fun h => by simp [fen, Fence.wide] at h
  rcases h with ⟨v, w', h, k⟩ | ⟨w', h, k⟩ | ⟨g, args, h, k⟩ | ⟨l, f, t, asn, b, h, k⟩
  · rw [h]; exact hk _ _ k
  · rw [h]; exact hk _ _ k
  · rw [h, Oper.uponIn_enter]
    have hc : CallsIn (fen rd) (0 - 1) P g args w (Ret K) := (callsIn_wide (n := 0)).2 k
    refine ⟨hdep, hc.mono ?_⟩
    intro e w' hr
    cases e with
    | returned v => exact hk _ _ hr
    | panicked c => exact hr.elim
    | outgrown => exact hr.elim
  · rw [h, Oper.uponIn_round]
    have hc : RoundIn (fen rd) (0 - 1) P l f t asn b w (Ret K) := k
    refine ⟨hdep, hc.mono ?_⟩
    intro e w' hr
    cases e with
    | returned v => exact hk _ _ hr
    | panicked c => exact hr.elim
    | outgrown => exact hr.elim

theorem Raw.does {P ρ o w K} (h : Raw P ρ o w K) : Does P ρ o w K := .inl h.h

section
variable {P : Program} {e : Env} {w : World} {K : Value → World → Prop} {Γ : List (Nat × TI)}

theorem does_v {o : Oper} {ρ} {v w'} (hop : (execOp ρ o).run P w = .ok (.value v) w') (hk : K v w') : Does P ρ o w K := .inl ⟨v, w', hop, hk⟩
theorem does_value {o : Oper} {ρ} {s : Sem Value} {v w'} (hop : execOp ρ o = (do let x ← s; pure (Next.value x))) (hs : s.run P w = .ok v w') (hk : K v w') : Does P ρ o w K :=
  .inl ⟨v, w', by rw [hop]; simp [hs, Result.andThen], hk⟩
theorem does_unit {o : Oper} {ρ} {s : Sem Unit} {w'} (hop : execOp ρ o = (do s; pure Next.skip)) (hs : s.run P w = .ok () w') (hk : K undef w') : Does P ρ o w K :=
  .inr (.inl ⟨w', by rw [hop]; simp [hs, Result.andThen], hk⟩)

theorem newB (w : World) (o : Obj) : NewB w w.heap.size o (w.alloc o) := ⟨rfl, rfl⟩

theorem cellsL_eq (v : Value) : cellsL v = v.cells.toList := by cases v <;> rfl

theorem guard_int (op : BinOp) (t : TypeId) (x y : Operand) (k k' : IntKind) (a b : Int) : (eqGuard op t x y (.int k a) (.int k' b)).run P w = .ok () w := by
  unfold eqGuard; cases op <;> simp

theorem run_bin_int (op : BinOp) (t : TypeId) (x y : Operand) (k k' : IntKind) (a b : Int) {v : Value} (h : (binOp op t (.int k a) (.int k' b)).run P w = .ok v w) :
    (do eqGuard op t x y (.int k a) (.int k' b); binOp op t (.int k a) (.int k' b) : Sem Value).run P w = .ok v w := by
  simp [guard_int, h, Result.andThen]


theorem pure_value {o : Oper} {ρ} {s : Sem Value} {v} (hop : execOp ρ o = (do let x ← s; pure (Next.value x))) (hs : ∀ W, s.run P W = .ok v W) : Pure P ρ o v :=
  fun W => by rw [hop]; simp [hs, Result.andThen]

theorem pure_bin {o : Oper} {op : BinOp} {t t' : TypeId} {x y : Operand} {k k' : IntKind} {a b : Int} {v : Value} (ho : o.op = .binOp op t x y t') (hx : ev e x = .int k a) (hy : ev e y = .int k' b)
    (h : ∀ W, (binOp op t (.int k a) (.int k' b)).run P W = .ok v W) : Pure P (ev e) o v :=
  pure_value (s := (do eqGuard op t x y (.int k a) (.int k' b); binOp op t (.int k a) (.int k' b))) (by unfold execOp; rw [ho]; simp only [hx, hy]) (fun W => run_bin_int op t x y k k' a b (h W))

theorem bits_run (op : BinOp) (k : IntKind) (a b : Int) (w : World) (h : op = .and ∨ op = .or ∨ op = .xor ∨ op = .andNot) : (Op.intBits op k a b).run P w = .ok (.int k (bits op k a b)) w := by
  rcases h with rfl | rfl | rfl | rfl <;> rfl

theorem str_ne {a b : ByteArray} (h : ¬ a = b) : (a.toList == b.toList) = false := by
  rw [beq_eq_false_iff_ne, Lib.toList_data, Lib.toList_data]
  intro h'
  apply h
  cases a; cases b
  simpa using h'

theorem run_und {t d} (h : P.underlying t = some d) (w : World) : (underlying t).run P w = .ok d w := by
  simp [underlying, program, Sem.run, h]

theorem run_info {t i} (h : P.info? t = some i) (w : World) : (typeInfo t).run P w = .ok i w := by
  simp [typeInfo, program, Sem.run, h]

theorem run_size {t ti} (h : TIok P (t, ti)) (w : World) : (sizeOf t).run P w = .ok ti.size w := by
  obtain ⟨i, hi, _, hs, _⟩ := h.info
  simp [sizeOf, run_info hi, Result.andThen, hs]

theorem run_zero {t ti} (h : TIok P (t, ti)) (w : World) : (zeroValue t).run P w = .ok ti.zero w := by
  obtain ⟨i, hi, hz, _, _⟩ := h.info
  simp [zeroValue, run_info hi, Result.andThen, hz]

theorem eq_fields (hG : Agree P Γ) (W : World) : ∀ (fs : List Field) (xs ys : List Value) (px py : List Value) (k : Nat), px.length = k → py.length = k → eqOk Γ fs xs ys = true → offsOk fs k = true →
    ∃ b, (Op.eqFields 9999 (px ++ xs).toArray (py ++ ys).toArray fs).run P W = .ok b W ∧ (b = true ↔ xs = ys)
  | [], [], [], _, _, _, _, _, _, _ => ⟨true, by simp [Op.eqFields], by simp⟩
  | [], x :: xs, _, _, _, _, _, _, h, _ => by simp [eqOk] at h
  | [], [], y :: ys, _, _, _, _, _, h, _ => by simp [eqOk] at h
  | f :: fs, [], _, _, _, _, _, _, h, _ => by simp [eqOk] at h
  | f :: fs, x :: xs, [], _, _, _, _, _, h, _ => by simp [eqOk] at h
  | f :: fs, x :: xs, y :: ys, px, py, k, hx, hy, h, ho => by
    simp only [eqOk] at h
    simp only [offsOk, Bool.and_eq_true] at ho
    have hoff := Nat.eq_of_beq_eq_true ho.1
    split at h
    · rename_i ti hl
      simp only [Bool.and_eq_true, Bool.not_eq_true'] at h
      obtain ⟨⟨h1, h2⟩, h3⟩ := h
      have hn : f.name ≠ "_" := by simpa using h2
      have hu := (hG.look hl).1
      obtain ⟨b0, ih, hih⟩ := eq_fields hG W fs xs ys (px ++ [x]) (py ++ [y]) (k + 1) (by simp [hx]) (by simp [hy]) h3 ho.2
      simp only [List.append_assoc, List.singleton_append] at ih
      have hpx : (px ++ x :: xs).toArray[f.offset]? = some x := by simp [hoff, ← hx]
      have hpy : (py ++ y :: ys).toArray[f.offset]? = some y := by simp [hoff, ← hy]
      have hpart : ∀ (cs : Array Value) (v : Value), isAggD ti.desc = false → cs[f.offset]? = some v → (part f.type cs f.offset).run P W = .ok v W := fun cs v ha hc => by
        have hagg : (isAgg f.type).run P W = .ok false W := by
          unfold isAgg
          rw [Sem.run_bind, run_und hu W]
          revert ha
          cases ti.desc <;> simp [isAggD, Result.andThen]
        unfold part
        simp [hagg, Result.andThen, hc]
      have fin : ∀ (b : Bool), isAggD ti.desc = false → (Op.equalIn 9999 f.type x y).run P W = .ok b W → (b = true ↔ x = y) →
          ∃ b, (Op.eqFields 9999 (px ++ x :: xs).toArray (py ++ y :: ys).toArray (f :: fs)).run P W = .ok b W ∧ (b = true ↔ x :: xs = y :: ys) := fun b ha hb hiff => by
        unfold Op.eqFields
        rw [if_pos hn]
        simp only [Sem.run_bind, hpart _ _ ha hpx, hpart _ _ ha hpy, Result.andThen_ok, hb]
        cases b with
        | true =>
          have := hiff.1 rfl
          subst this
          exact ⟨b0, by simp only [Bool.not_true, Bool.false_eq_true, if_false, ih], by simp [hih]⟩
        | false =>
          have hne : x ≠ y := fun h => by have := hiff.2 h; cases this
          exact ⟨false, by simp, by simp [hne]⟩
      split at h1
      · rename_i ki k a k' b hd
        obtain rfl := kq_inj h1
        exact fin (a == b) (by rw [hd]; rfl) (run_equalIn_int W 9998 f.type k ki a b (by rw [hu, hd])) (by simp)
      · rename_i a b hd
        exact fin (a == b) (by rw [hd]; rfl) (run_equalIn_bool' W 9998 f.type a b (by rw [hu, hd])) (by simp)
      · rename_i a b hd
        refine fin (a.toList == b.toList) (by rw [hd]; rfl) (run_equalIn_string W 9998 f.type a b (by rw [hu, hd])) ?_
        constructor
        · intro h
          by_cases hc : a = b
          · rw [hc]
          · rw [str_ne hc] at h; cases h
        · intro h
          injection h with h
          simp [h]
      · cases h1
    · cases h

theorem fieldsOf_look (hG : Agree P Γ) {t : TypeId} {ti : TI} {fs : Array Field} (hl : look Γ t = some ti) (hd : ti.desc = .struct fs) : P.underlying t = some (.struct (P.fieldsOf t)) ∧ P.fieldsOf t = fs := by
  have hu := (hG.look hl).1
  simp only [hd] at hu
  have : P.fieldsOf t = fs := by unfold Program.fieldsOf; rw [hu]
  rw [this]
  exact ⟨hu, rfl⟩
theorem run_eqAgg (hG : Agree P Γ) {t : TypeId} {ti : TI} {fs : Array Field} {asn bs : Array Value} (hl : look Γ t = some ti) (hd : ti.desc = .struct fs) (hok : (eqOk Γ fs.toList asn.toList bs.toList && offsOk fs.toList 0) = true) (hp : P.stoodInHeld t = false) (W : World) :
    ∃ b, (Op.equalIn 10000 t (.agg asn) (.agg bs)).run P W = .ok b W ∧ (b = true ↔ asn = bs) := by
  obtain ⟨h1, h2⟩ := fieldsOf_look hG hl hd
  rw [run_equalIn_struct W 9999 t asn bs h1 hp, h2]
  rw [Bool.and_eq_true] at hok
  obtain ⟨b, h3, h4⟩ := eq_fields hG W fs.toList asn.toList bs.toList [] [] 0 rfl rfl hok.1 hok.2
  simp only [List.nil_append, Array.toArray_toList] at h3
  exact ⟨b, h3, h4.trans Array.toList_inj⟩

theorem opP_bin (hG : Agree P Γ) {KP : Value → Prop} {raw : Prop} {o : Oper} {op : BinOp} {t t' : TypeId} {x y : Operand} (ho : o.op = .binOp op t x y t') (h : opP P Γ e o raw KP) : raw ∨ ∃ v, KP v ∧ Pure P (ev e) o v := by
  unfold opP at h
  rw [ho] at h
  simp only at h
  split at h
  · rename_i k a k' b hx hy
    cases op <;> simp only at h
    case shl =>
      obtain ⟨h0, h⟩ := h
      refine .inr ⟨_, h.h _ rfl, pure_bin ho hx hy fun W => ?_⟩
      simp only [binOp, Op.shift]
      rw [if_neg (by omega)]; rfl
    case shr =>
      obtain ⟨h0, h⟩ := h
      refine .inr ⟨_, h.h _ rfl, pure_bin ho hx hy fun W => ?_⟩
      simp only [binOp, Op.shift]
      rw [if_neg (by omega)]; rfl
    all_goals
      cases hk : Nat.beq (kq k) (kq k') with
      | false => rw [hk] at h; exact h.elim
      | true =>
        rw [hk] at h
        obtain rfl := kq_inj hk
        simp only [cond_true] at h
        refine .inr ?_
        first
        | (refine ⟨_, h.h _ rfl, pure_bin ho hx hy fun W => ?_⟩; simp [binOp, Op.intArith]; done)
        | (refine ⟨_, h.h _ rfl, pure_bin ho hx hy fun W => ?_⟩; simp only [binOp, ne_eq, not_true_eq_false, if_false]; exact bits_run _ _ _ _ _ (by simp))
        | (obtain ⟨h0, h⟩ := h; refine ⟨_, h.h _ rfl, pure_bin ho hx hy fun W => ?_⟩; simp [binOp, Op.intDiv, h0]; done)
        | (by_cases hc : a = b
           · first
             | exact ⟨.bool true, h.1 hc, pure_bin ho hx hy fun W => by simp [binOp, Op.intCmp, hc]⟩
             | exact ⟨.bool false, h.2 (by simpa using hc), pure_bin ho hx hy fun W => by simp [binOp, Op.intCmp, hc]⟩
           · first
             | exact ⟨.bool false, h.2 hc, pure_bin ho hx hy fun W => by simp [binOp, Op.intCmp, hc]⟩
             | exact ⟨.bool true, h.1 hc, pure_bin ho hx hy fun W => by simp [binOp, Op.intCmp, hc]⟩)
        | (by_cases hc : a < b
           · exact ⟨.bool true, h.1 hc, pure_bin ho hx hy fun W => by simp [binOp, Op.intCmp, hc]⟩
           · exact ⟨.bool false, h.2 hc, pure_bin ho hx hy fun W => by simp [binOp, Op.intCmp]; omega⟩)
        | (by_cases hc : a ≤ b
           · exact ⟨.bool true, h.1 hc, pure_bin ho hx hy fun W => by simp [binOp, Op.intCmp, hc]⟩
           · exact ⟨.bool false, h.2 hc, pure_bin ho hx hy fun W => by simp [binOp, Op.intCmp]; omega⟩)
        | (by_cases hc : b < a
           · exact ⟨.bool true, h.1 hc, pure_bin ho hx hy fun W => by simp [binOp, Op.intCmp, hc]⟩
           · exact ⟨.bool false, h.2 hc, pure_bin ho hx hy fun W => by simp [binOp, Op.intCmp]; omega⟩)
        | (by_cases hc : b ≤ a
           · exact ⟨.bool true, h.1 hc, pure_bin ho hx hy fun W => by simp [binOp, Op.intCmp, hc]⟩
           · exact ⟨.bool false, h.2 hc, pure_bin ho hx hy fun W => by simp [binOp, Op.intCmp]; omega⟩)
  · rename_i a b hx hy
    have hg : ∀ op (W : World), (eqGuard op t x y (.string a) (.string b)).run P W = .ok () W := by intro op W; unfold eqGuard; cases op <;> simp
    have go : ∀ v, (∀ W, (binOp op t (.string a) (.string b)).run P W = .ok v W) → Pure P (ev e) o v := fun v h =>
      pure_value (s := (do eqGuard op t x y (.string a) (.string b); binOp op t (.string a) (.string b))) (by unfold execOp; rw [ho]; simp only [hx, hy]) (fun W => by simp [hg, h, Result.andThen])
    cases op <;> simp only at h
    case eql =>
      by_cases hc : a = b
      · exact .inr ⟨.bool true, h.1 hc, go _ fun W => by simp [binOp, Op.stringOp, hc]⟩
      · exact .inr ⟨.bool false, h.2 hc, go _ fun W => by simp only [binOp, Op.stringOp, str_ne hc]; rfl⟩
    case neq =>
      by_cases hc : a = b
      · exact .inr ⟨.bool false, h.2 (by simpa using hc), go _ fun W => by simp [binOp, Op.stringOp, hc]⟩
      · exact .inr ⟨.bool true, h.1 hc, go _ fun W => by simp only [binOp, Op.stringOp, str_ne hc]; rfl⟩
    case add =>
      obtain ⟨hs, h⟩ := h
      exact .inr ⟨_, h, go _ fun W => by
        simp only [binOp, Op.stringOp]
        rw [if_neg (by simp only [IntKind.max, IntKind.bits]; omega)]; rfl⟩
    all_goals (obtain ⟨v, hp, hk⟩ := PR.h h; exact .inr ⟨v, hk, hp⟩)
  · rename_i a b hx hy
    have hg : ∀ op (W : World), (eqGuard op t x y (.bool a) (.bool b)).run P W = .ok () W := by intro op W; unfold eqGuard; cases op <;> simp
    have go : ∀ v, (∀ W, (binOp op t (.bool a) (.bool b)).run P W = .ok v W) → Pure P (ev e) o v := fun v h =>
      pure_value (s := (do eqGuard op t x y (.bool a) (.bool b); binOp op t (.bool a) (.bool b))) (by unfold execOp; rw [ho]; simp only [hx, hy]) (fun W => by simp [hg, h, Result.andThen])
    split at h
    · rename_i ti hl
      split at h
      · rename_i hd
        have h : KP (.bool (a == b)) := by
          cases hab : (a == b) with
          | true => exact h.1 (by simpa using hab)
          | false => exact h.2 (by simpa using hab)
        exact .inr ⟨_, h, go _ fun W => by
          have hu := (hG.look hl).1
          simp only [hd] at hu
          simp [binOp, Op.equal, Op.maxDepth, run_equalIn_bool' W 9999 t a b hu, Result.andThen]⟩
      · obtain ⟨v, hp, hk⟩ := PR.h h; exact .inr ⟨v, hk, hp⟩
    · rename_i ti hl
      split at h
      · rename_i hd
        have h : KP (.bool (!(a == b))) := by
          cases hab : (a == b) with
          | true => exact h.2 (by simpa using hab)
          | false => exact h.1 (by simpa using hab)
        exact .inr ⟨_, h, go _ fun W => by
          have hu := (hG.look hl).1
          simp only [hd] at hu
          simp [binOp, Op.equal, Op.maxDepth, run_equalIn_bool' W 9999 t a b hu, Result.andThen]⟩
      · obtain ⟨v, hp, hk⟩ := PR.h h; exact .inr ⟨v, hk, hp⟩
    · obtain ⟨v, hp, hk⟩ := PR.h h; exact .inr ⟨v, hk, hp⟩
  · rename_i asn bs hx hy
    have go : P.eqGuardType P.depth t = false → ∀ v, (∀ W, (binOp op t (.agg asn) (.agg bs)).run P W = .ok v W) → Pure P (ev e) o v := fun hm v h =>
      pure_value (s := (do eqGuard op t x y (.agg asn) (.agg bs); binOp op t (.agg asn) (.agg bs))) (by unfold execOp; rw [ho]; simp only [hx, hy]) (fun W => by simp [run_eqGuard_agg W op t x y asn bs hm, h, Result.andThen])
    have pr : PR P (ev e) o KP → raw ∨ ∃ v, KP v ∧ Pure P (ev e) o v := fun h => by obtain ⟨v, hp, hk⟩ := PR.h h; exact .inr ⟨v, hk, hp⟩
    split at h
    · split at h
      · rename_i ti hl
        split at h
        · rename_i fs hd
          cases hok : (eqOk Γ fs.toList asn.toList bs.toList && offsOk fs.toList 0) with
          | false => rw [hok] at h; exact pr h
          | true =>
            rw [hok] at h
            obtain ⟨⟨hp, hm⟩, h⟩ := h
            have hrun := run_eqAgg hG hl hd hok hp
            by_cases hc : asn = bs
            · exact .inr ⟨.bool true, h.1 hc, go hm _ fun W => by obtain ⟨b, h3, h4⟩ := hrun W; rw [run_eql_struct, h3, h4.2 hc]; rfl⟩
            · exact .inr ⟨.bool false, h.2 hc, go hm _ fun W => by
                obtain ⟨b, h3, h4⟩ := hrun W
                rw [run_eql_struct, h3, show b = false by cases b; rfl; exact absurd (h4.1 rfl) hc]; rfl⟩
        · exact pr h
      · exact pr h
    · split at h
      · rename_i ti hl
        split at h
        · rename_i fs hd
          cases hok : (eqOk Γ fs.toList asn.toList bs.toList && offsOk fs.toList 0) with
          | false => rw [hok] at h; exact pr h
          | true =>
            rw [hok] at h
            obtain ⟨⟨hp, hm⟩, h⟩ := h
            have hrun := run_eqAgg hG hl hd hok hp
            by_cases hc : asn = bs
            · exact .inr ⟨.bool false, h.2 (fun hn => hn hc), go hm _ fun W => by obtain ⟨b, h3, h4⟩ := hrun W; rw [run_neq_struct, h3, h4.2 hc]; rfl⟩
            · exact .inr ⟨.bool true, h.1 hc, go hm _ fun W => by
                obtain ⟨b, h3, h4⟩ := hrun W
                rw [run_neq_struct, h3, show b = false by cases b; rfl; exact absurd (h4.1 rfl) hc]; rfl⟩
        · exact pr h
      · exact pr h
    · exact pr h
  · obtain ⟨v, hp, hk⟩ := PR.h h; exact .inr ⟨v, hk, hp⟩

theorem fldL_spec (hG : Agree P Γ) : ∀ {fs : List Field} {i off size ty}, fldL Γ fs i = some (off, size, ty) → ∃ f ti, fs[i]? = some f ∧ f.offset = off ∧ f.type = ty ∧ TIok P (ty, ti) ∧ ti.size = size
  | [], _, _, _, _, h => by simp [fldL] at h
  | f :: r, 0, off, size, ty, h => by
    simp only [fldL] at h
    split at h
    · rename_i ti hl
      simp only [Option.some.injEq, Prod.mk.injEq] at h
      obtain ⟨rfl, rfl, rfl⟩ := h
      exact ⟨f, ti, rfl, rfl, rfl, hG.look hl, rfl⟩
    · cases h
  | f :: r, i + 1, off, size, ty, h => by
    obtain ⟨g, ti, h1, h2⟩ := fldL_spec hG (fs := r) h
    exact ⟨g, ti, by simpa using h1, h2⟩

theorem run_fieldAt (hG : Agree P Γ) {s : TypeId} {i off k ty : Nat} {a : Addr} (h : fld Γ s i = some (off, k + 1, ty)) (w : World) :
    (Instr.fieldAt s (.pointer (some a)) i).run P w = .ok (.pointer (some (a.add off))) w := by
  unfold fld at h
  split at h
  · rename_i ti hl
    split at h
    · rename_i fs hd
      obtain ⟨f, tj, h1, rfl, rfl, h4, h5⟩ := fldL_spec hG h
      have hf : fs[i]? = some f := by simpa using h1
      have hu := (hG.look hl).1
      rw [hd] at hu
      simp [Instr.fieldAt, run_und hu, Result.andThen, hf, Instr.sureAddr, fieldPlace, run_size h4, h5]
    · cases h
  · cases h

theorem run_box (t : TypeId) (v : Value) (w : World) : (Instr.box t v).run P w = .ok (.pointer (some ⟨w.heap.size, 0, none⟩)) (w.alloc (.cells (cellsL v).toArray t)) := by
  simp only [Instr.box, newVar, newRow, newObj, cellsL_eq, Array.toArray_toList]; rfl

theorem run_allocT {t ti} (h : TIok P (t, ti)) (w : World) : (Instr.alloc t true (.tuple #[])).run P w = .ok (.pointer (some ⟨w.heap.size, 0, none⟩)) (w.alloc (.cells (cellsL ti.zero).toArray t)) := by
  simp only [Instr.alloc, newVar, newRow, newObj, cellsL_eq, Array.toArray_toList, Sem.run_bind, run_zero h, Result.andThen]; rfl

theorem lay_eq (cs : List Value) (o : Nat) (vs : List Value) : ∀ k, (vs.zipIdx k).foldl (fun (c : Array Value) (p : Value × Nat) => c.setIfInBounds (o + p.2) p.1) cs.toArray = (lay cs (o + k) vs).toArray := by
  induction vs generalizing cs with
  | nil => intro k; rfl
  | cons v r ih =>
    intro k
    simp only [List.zipIdx_cons, List.foldl_cons, lay]
    have : cs.toArray.setIfInBounds (o + k) v = (cs.set (o + k) v).toArray := by simp
    rw [this, ih, Nat.add_assoc]


theorem fill_fold (cs : List Value) (o : Nat) (v : Value) : v.cells.zipIdx.foldl (fun (c : Array Value) (p : Value × Nat) => c.setIfInBounds (o + p.2) p.1) cs.toArray = (lay cs o (cellsL v)).toArray := by
  rw [cellsL_eq, ← Array.foldl_toList, Array.toList_zipIdx]
  simpa using lay_eq cs o v.cells.toList 0

theorem lay_size : ∀ (vs cs : List Value) (o : Nat), (lay cs o vs).length = cs.length
  | [], _, _ => rfl
  | v :: r, cs, o => by rw [lay, lay_size r]; exact List.length_set
theorem fillFN_spec {n : Nat} (hG : Agree P Γ) {fs : List Field} {place : Nat → Option (Nat × Nat)} (hp : ∀ i off size ty, fldL Γ fs i = some (off, size, ty) → place i = some (off, size)) :
    ∀ {parts : List (Nat × Operand)} {cs ds : List Value}, n = cs.length → fillFN Γ fs e n cs parts = some ds → Instr.fill place cs.toArray (parts.map fun p => (p.1, ev e p.2)) = some ds.toArray
  | [], cs, ds, _, h => by simp only [fillFN, Option.some.injEq] at h; subst h; rfl
  | (i, x) :: r, cs, ds, hn, h => by
    simp only [fillFN] at h
    rw [hn] at h
    split at h
    · rename_i off size ty hf
      cases hb : (Nat.beq (cellsL (ev e x)).length size && Nat.ble (off + size) cs.length) with
      | false => rw [hb] at h; cases h
      | true =>
        rw [hb] at h
        simp only [cond_true] at h
        rw [Bool.and_eq_true] at hb
        have h1 := Nat.eq_of_beq_eq_true hb.1
        have h2 := Nat.le_of_ble_eq_true hb.2
        have hs : (ev e x).cells.size = size := by rw [← h1, cellsL_eq, Array.length_toList]
        simp only [List.map_cons, Instr.fill, hp i off size ty hf]
        rw [if_neg (by simp [hs]; omega), fill_fold]
        exact fillFN_spec hG hp (lay_size _ _ _).symm h
    · cases h
theorem fillF_spec (hG : Agree P Γ) {fs : List Field} {place : Nat → Option (Nat × Nat)} (hp : ∀ i off size ty, fldL Γ fs i = some (off, size, ty) → place i = some (off, size))
    {parts : List (Nat × Operand)} {cs ds : List Value} (h : fillF Γ fs e cs parts = some ds) : Instr.fill place cs.toArray (parts.map fun p => (p.1, ev e p.2)) = some ds.toArray := fillFN_spec hG hp rfl h

theorem fillAN_spec {size n : Nat} : ∀ {parts : List (Nat × Operand)} {cs ds : List Value}, n = cs.length → fillAN size e n cs parts = some ds →
    Instr.fill (fun i => some (i * size, size)) cs.toArray (parts.map fun p => (p.1, ev e p.2)) = some ds.toArray
  | [], cs, ds, _, h => by simp only [fillAN, Option.some.injEq] at h; subst h; rfl
  | (i, x) :: r, cs, ds, hn, h => by
    simp only [fillAN] at h
    rw [hn] at h
    cases hb : (Nat.beq (cellsL (ev e x)).length size && Nat.ble (i * size + size) cs.length) with
    | false => rw [hb] at h; cases h
    | true =>
      rw [hb] at h
      simp only [cond_true] at h
      rw [Bool.and_eq_true] at hb
      have h1 := Nat.eq_of_beq_eq_true hb.1
      have h2 := Nat.le_of_ble_eq_true hb.2
      have hs : (ev e x).cells.size = size := by rw [← h1, cellsL_eq, Array.length_toList]
      simp only [List.map_cons, Instr.fill]
      rw [if_neg (by simp [hs]; omega), fill_fold]
      exact fillAN_spec (lay_size _ _ _).symm h
theorem fillA_spec {size : Nat} {parts : List (Nat × Operand)} {cs ds : List Value} (h : fillA size e cs parts = some ds) :
    Instr.fill (fun i => some (i * size, size)) cs.toArray (parts.map fun p => (p.1, ev e p.2)) = some ds.toArray := fillAN_spec rfl h


theorem allF_spec (hG : Agree P Γ) : ∀ {fs : List Field}, allF Γ fs = true → ∀ f ∈ fs, ∃ ti, TIok P (f.type, ti) ∧ look Γ f.type = some ti
  | [], _, f, hf => by simp at hf
  | g :: r, h, f, hf => by
    simp only [allF] at h
    split at h
    · rename_i ti hl
      rcases List.mem_cons.1 hf with rfl | hf
      · exact ⟨ti, hG.look hl, hl⟩
      · exact allF_spec hG h f hf
    · cases h

theorem run_mapM {α β : Type} (P : Program) (w : World) (f : α → Sem β) (g : α → β) : ∀ (l : List α), (∀ x ∈ l, (f x).run P w = .ok (g x) w) → (l.mapM f).run P w = .ok (l.map g) w
  | [], _ => by simp [pure, Sem.run]
  | x :: r, h => by
    have hx := h x List.mem_cons_self
    have hr := run_mapM P w f g r (fun y hy => h y (List.mem_cons_of_mem _ hy))
    simp only [List.mapM_cons, Sem.run_bind, hx, hr, Result.andThen, List.map_cons]
    rfl

theorem run_places (hG : Agree P Γ) {fs : Array Field} (h : allF Γ fs.toList = true) (w : World) :
    ∃ pl : Array (Nat × Nat), (fs.mapM fun f => do pure (f.offset, ← sizeOf f.type) : Sem (Array (Nat × Nat))).run P w = .ok pl w ∧
      ∀ i off size ty, fldL Γ fs.toList i = some (off, size, ty) → pl[i]? = some (off, size) := by
  let g : Field → Nat × Nat := fun f => (f.offset, (((look Γ f.type).map (·.size)).getD 0))
  refine ⟨(fs.toList.map g).toArray, ?_, ?_⟩
  · rw [Array.mapM_eq_mapM_toList]
    have : ∀ x ∈ fs.toList, ((do pure (x.offset, ← sizeOf x.type) : Sem (Nat × Nat))).run P w = .ok (g x) w := by
      intro f hf
      obtain ⟨ti, h1, h2⟩ := allF_spec hG h f hf
      simp [run_size h1, Result.andThen, g, h2]
    have hm := run_mapM P w _ g fs.toList this
    show Sem.run P ((List.mapM _ fs.toList) >>= fun l => pure l.toArray) w = _
    rw [Sem.run_bind, hm]
    rfl
  · intro i off size ty hi
    obtain ⟨f, ti, h1, rfl, rfl, h4, rfl⟩ := fldL_spec hG hi
    have hmem : f ∈ fs.toList := List.mem_of_getElem? h1
    obtain ⟨tj, h5, h6⟩ := allF_spec hG h f hmem
    have : tj.size = ti.size := by
      obtain ⟨i1, a1, _, b1, _⟩ := h5.info
      obtain ⟨i2, a2, _, b2, _⟩ := h4.info
      rw [a1] at a2
      cases a2
      rw [← b1, b2]
    simp [h1, g, h6, this]

theorem run_build (hG : Agree P Γ) {t : TypeId} {ti : TI} {fs : Array Field} {parts : Array (Nat × Operand)} {cs : List Value} (hl : look Γ t = some ti) (hd : ti.desc = .struct fs)
    (ha : allF Γ fs.toList = true) (hf : fillF Γ fs.toList e (cellsL ti.zero) parts.toList = some cs) (w : World) :
    (Instr.build t (parts.map fun (i, x) => (i, ev e x))).run P w = .ok (.agg cs.toArray) w := by
  have hT := hG.look hl
  have hu := hT.1
  rw [hd] at hu
  obtain ⟨pl, hpl, hp⟩ := run_places hG ha w
  have hfill := fillF_spec (e := e) hG (place := (pl[·]?)) hp hf
  have hcl : (cellsL ti.zero).toArray = ti.zero.cells := by rw [cellsL_eq]
  rw [hcl] at hfill
  unfold Instr.build
  simp only [Sem.run_bind, run_zero hT, run_und hu, hpl, Result.andThen]
  rw [Array.toList_map]
  rw [show (fun (x : Nat × Operand) => match x with | (i, x) => (i, ev e x)) = (fun p => (p.1, ev e p.2)) from rfl, hfill]
  rfl

theorem rep_len (z : List Value) (n : Nat) : (rep z n).length = n * z.length := by
  induction n with
  | zero => simp [rep]
  | succ n ih => simp [rep, ih, Nat.add_mul, Nat.add_comm]

theorem rep_get (z : List Value) (hz : 0 < z.length) : ∀ n i, i < n * z.length → (rep z n)[i]? = z[i % z.length]? := by
  intro n
  induction n with
  | zero => intro i h; simp at h
  | succ n ih =>
    intro i h
    simp only [rep]
    by_cases hi : i < z.length
    · rw [List.getElem?_append_left hi, Nat.mod_eq_of_lt hi]
    · rw [List.getElem?_append_right (by omega), ih (i - z.length) (by rw [Nat.add_mul] at h; omega)]
      congr 1
      rw [← Nat.mod_eq_sub_mod (by omega)]

theorem rep_eq (z : Array Value) (n : Nat) : (Array.range (n * z.size)).map (z[· % z.size]!) = (rep z.toList n).toArray := by
  apply Array.ext
  · simp [rep_len]
  · intro i h1 h2
    simp at h1
    have hz : 0 < z.size := by
      rcases Nat.eq_zero_or_pos z.size with h | h
      · rw [h] at h1; simp at h1
      · exact h
    have hm := Nat.mod_lt i hz
    have hg := rep_get z.toList (by simpa using hz) n i (by simpa using h1)
    simp only [Array.length_toList] at hg
    rw [List.getElem?_eq_getElem (by simpa [rep_len] using h1)] at hg
    simp only [Array.getElem_map, Array.getElem_range, List.getElem_toArray]
    rw [getElem!_pos z _ hm]
    have : z.toList[i % z.size]? = some z[i % z.size] := by simp [hm]
    rw [this] at hg
    exact (Option.some.inj hg).symm

theorem run_buildSlice (hG : Agree P Γ) {t el : TypeId} {ti tj : TI} {len : Nat} {parts : Array (Nat × Operand)} {cs : List Value} (hl : look Γ t = some ti) (hd : ti.desc = .slice el)
    (hj : look Γ el = some tj)  (hf : fillA tj.size e (rep (cellsL tj.zero) len) parts.toList = some cs) (hle : len * tj.size ≤ 16777216) (w : World) :
    (Instr.buildSlice t len (parts.map fun (i, x) => (i, ev e x))).run P w = .ok (.slice (some ⟨w.heap.size, 0, none⟩) len len) (w.alloc (.cells cs.toArray el)) := by
  have hT := hG.look hl
  have hu := hT.1
  rw [hd] at hu
  have hE := hG.look hj
  have hz := hE.2.2
  have hfill := fillA_spec (e := e) hf
  have hr := rep_eq tj.zero.cells len
  rw [cellsL_eq, ← hr, hz] at hfill
  unfold Instr.buildSlice
  by_cases h0 : len * tj.size = 0
  · have he : (Array.range (len * tj.size)).map ((#[] : Array Value)[· % (#[] : Array Value).size]!) = (Array.range (len * tj.size)).map (tj.zero.cells[· % tj.size]!) := by rw [h0]; simp
    simp only [Sem.run_bind, run_und hu, run_size hE, Result.andThen]
    rw [if_neg (by omega)]
    simp only [Sem.run_bind, Result.andThen, h0, if_true]
    simp only [h0] at he hfill
    simp only [Sem.run_pure]
    rw [he, Array.toList_map]
    rw [show (fun (x : Nat × Operand) => match x with | (i, x) => (i, ev e x)) = (fun p => (p.1, ev e p.2)) from rfl, hfill]
    rfl
  · simp only [Sem.run_bind, run_und hu, run_size hE, Result.andThen]
    rw [if_neg (by omega)]
    simp only [Sem.run_bind, Result.andThen, h0, if_false, run_zero hE, Sem.run_pure]
    rw [hz, Array.toList_map]
    rw [show (fun (x : Nat × Operand) => match x with | (i, x) => (i, ev e x)) = (fun p => (p.1, ev e p.2)) from rfl, hfill]
    rfl


theorem run_indexAt (hG : Agree P Γ) {t el : TypeId} {ti tj : TI} {b off len cap : Nat} {k : IntKind} {j : Int} (hl : look Γ t = some ti) (hd : ti.desc = .slice el) (hj : look Γ el = some tj)
    (hb : 0 ≤ j ∧ j < (len : Int)) (w : World) : (Instr.indexAt t (.slice (some ⟨b, off, none⟩) len cap) (.int k j)).run P w = .ok (.pointer (some ⟨b, off + j.toNat * tj.size, none⟩)) w := by
  have hu := (hG.look hl).1
  rw [hd] at hu
  rw [← add_none]
  simp [Instr.indexAt, asIntOf, run_und hu, Result.andThen, hb, run_size (hG.look hj)]

theorem run_len (hG : Agree P Γ) {t el ty : TypeId} {ti : TI} {a : Option Addr} {m c : Nat} (hl : look Γ t = some ti) (hd : ti.desc = .slice el) (w : World) :
    (Builtin.len_ #[t] ty #[.slice a m c]).run P w = .ok (.int .i64 m) w := by
  have hu := (hG.look hl).1
  rw [hd] at hu
  simp [Builtin.len_, run_und hu, Result.andThen, goInt]

theorem run_lenS (hG : Agree P Γ) {t ty : TypeId} {ti : TI} {s : ByteArray} (hl : look Γ t = some ti) (hd : ti.desc = .string) (w : World) :
    (Builtin.len_ #[t] ty #[.string s]).run P w = .ok (.int .i64 s.size) w := by
  have hu := (hG.look hl).1
  rw [hd] at hu
  simp [Builtin.len_, run_und hu, Result.andThen, goInt]

theorem run_capS (hG : Agree P Γ) {t el ty : TypeId} {ti : TI} {a : Option Addr} {m c : Nat} (hl : look Γ t = some ti) (hd : ti.desc = .slice el) (w : World) :
    (Builtin.cap_ #[t] ty #[.slice a m c]).run P w = .ok (.int .i64 c) w := by
  have hu := (hG.look hl).1
  rw [hd] at hu
  simp [Builtin.cap_, run_und hu, Result.andThen, goInt]

theorem call_does {o : Oper} {c : Go.Call} {f : Operand} {g : FuncId} {first cap : Array Value} (ho : o.op = .call c) (hc : c.callee = .value f) (hf : ev e f = .func (.func g) first cap)
    (h : Au.Call P g (first.toList ++ c.args.toList.map (ev e) ++ cap.toList) w K) : Does P (ev e) o w K := by
  obtain ⟨hca, hC⟩ := h
  refine .inr (.inr (.inl ⟨g, _, ?_, hC⟩))
  unfold callable at hca
  split at hca
  · rename_i fn hfn
    rw [Bool.and_eq_true] at hca
    have h1 : (fn.name == "runtime.NumGoroutine") = false := by simpa using hca.1
    have h2 : fn.body.isNone = false := by
      have := hca.2
      cases hb : fn.body <;> simp_all
    have : execOp (ev e) o = (do let d ← resolve (ev e) c o.type; invoke d.target d.args) := by unfold execOp; rw [ho]
    rw [this]
    have hfn' : ∀ (w : World), (program).run P w = .ok P w := fun w => rfl
    simp only [resolve, hc, hf, Deferred.ofValue, Sem.run_bind, Sem.run_pure, Result.andThen_ok, invoke, callFunc, hfn', hfn, h1, h2]
    simp
  · cases hca


theorem yield_does {o : Oper} {c : Go.Call} {f : Operand} {l : Nat} {first cap : Array Value} (ho : o.op = .call c) (hc : c.callee = .value f) (hf : ev e f = .func (.yield l) first cap)
    (h : Yield P l (first.toList ++ c.args.toList.map (ev e)) w K) : Does P (ev e) o w K := by
  obtain ⟨fn, tmps, assign, body, h1, h2⟩ := h.r
  refine .inr (.inr (.inr ⟨l, fn, tmps, assign, body, ?_, h2⟩))
  have : execOp (ev e) o = (do let d ← resolve (ev e) c o.type; invoke d.target d.args) := by unfold execOp; rw [ho]
  rw [this]
  simp only [resolve, hc, hf, Deferred.ofValue, Sem.run_bind, Sem.run_pure, Result.andThen_ok, invoke]
  have hargs : (first.toList ++ c.args.toList.map (ev e)).toArray = first ++ c.args.map (ev e) := by
    apply Array.toList_inj.1
    simp
  rw [hargs] at h1
  simpa using h1

theorem builtin_pure {o : Oper} {c : Go.Call} {b : Builtin} {x : Operand} {t : TypeId} {v : Value} (ho : o.op = .call c) (hc : c.callee = .builtin b) (hx : c.args.toList = [x]) (ht : c.argTypes.toList = [t])
    (h : ∀ cs W, (builtin b #[t] o.type cs #[ev e x]).run P W = .ok (.value v) W) : Pure P (ev e) o v := by
  have hx' : c.args = #[x] := by rw [← Array.toList_inj, hx]
  have ht' : c.argTypes = #[t] := by rw [← Array.toList_inj, ht]
  intro W
  have : execOp (ev e) o = (do let d ← resolve (ev e) c o.type; invoke d.target d.args) := by unfold execOp; rw [ho]
  rw [this]
  simp only [resolve, hc, hx', ht', Sem.run_bind, Sem.run_pure, Result.andThen_ok, invoke]
  simpa using h _ W

theorem bnd_cases {y : Option Operand} {d i : Int} (hb : bnd e y d = some i) : (y = none ∧ i = d) ∨ ∃ z k, y = some z ∧ ev e z = .int k i := by
  unfold bnd at hb
  cases y with
  | none => simp at hb; exact .inl ⟨rfl, hb.symm⟩
  | some z =>
    simp only at hb
    split at hb
    · rename_i k n hz
      simp at hb
      subst hb
      exact .inr ⟨z, k, rfl, hz⟩
    · cases hb
theorem run_bounds {lo hi : Option Operand} (isS : Bool) {len : Nat} (cap : Nat) {l u : Int} (W : World) (hl : bnd e lo 0 = some l) (hh : bnd e hi (len : Int) = some u) (h0 : 0 ≤ l) (h1 : l ≤ u) (h2 : u ≤ (cap : Int)) :
    (Instr.sliceBounds isS len cap (lo.map (ev e)) (hi.map (ev e)) none).run P W = .ok (l.toNat, u.toNat, cap) W := by
  have hu0 : 0 ≤ u := by omega
  have hun : (u.toNat : Int) = u := Int.toNat_of_nonneg hu0
  unfold Instr.sliceBounds
  rcases bnd_cases hh with ⟨rfl, rfl⟩ | ⟨z, k, rfl, hz⟩
  · rcases bnd_cases hl with ⟨rfl, rfl⟩ | ⟨z2, k2, rfl, hz2⟩
    · simp
    · simp [hz2, Instr.sliceBound, asIntOf, h0, h1]
  · rcases bnd_cases hl with ⟨rfl, rfl⟩ | ⟨z2, k2, rfl, hz2⟩
    · simp [hz, Instr.sliceBound, asIntOf, hu0, h2]
    · simp [hz, hz2, Instr.sliceBound, asIntOf, h0, hu0, h2, hun, h1]
set_option maxHeartbeats 4000000 in
theorem opP_spec (hG : Agree P Γ) {KP : Value → Prop} {raw : Prop} {o : Oper} (h : opP P Γ e o raw KP) : raw ∨ ∃ v, KP v ∧ Pure P (ev e) o v := by
  have pr : PR P (ev e) o KP → raw ∨ ∃ v, KP v ∧ Pure P (ev e) o v := fun h => by obtain ⟨v, hp, hk⟩ := PR.h h; exact .inr ⟨v, hk, hp⟩
  cases ho : o.op
  case binOp => exact opP_bin hG ho h
  all_goals
    unfold opP at h
    rw [ho] at h
    simp only at h
  case move x => exact .inr ⟨_, h, fun W => by unfold execOp; rw [ho]; rfl⟩
  case assign x => exact .inr ⟨_, h, fun W => by unfold execOp; rw [ho]; rfl⟩
  case pick c a b =>
    split at h
    · rename_i hc; exact .inr ⟨_, h, fun W => by unfold execOp; rw [ho]; simp [hc, asBool, Result.andThen]⟩
    · rename_i hc; exact .inr ⟨_, h, fun W => by unfold execOp; rw [ho]; simp [hc, asBool, Result.andThen]⟩
    · exact h.elim
  case extract t i =>
    split at h
    · rename_i vs hv
      split at h
      · rename_i v hn
        rw [nth_eq] at hn
        have hn' : vs[i]? = some v := by simpa using hn
        exact .inr ⟨_, h, pure_value (s := Instr.extract (ev e t) i) (by unfold execOp; rw [ho]) (fun W => by simp [Instr.extract, hv, hn'])⟩
      · exact h.elim
    · exact h.elim
  case unOp op t x =>
    split at h
    · rename_i b hb
      exact .inr ⟨_, h, pure_value (s := Go.Op.unary .not (ev e x)) (by unfold execOp; rw [ho]) (fun W => by simp [Go.Op.unary, hb])⟩
    · rename_i k a hb
      exact .inr ⟨_, h.h _ rfl, pure_value (s := Go.Op.unary .neg (ev e x)) (by unfold execOp; rw [ho]) (fun W => by simp [Go.Op.unary, hb, Op.intArith])⟩
    · first | exact .inl h | exact pr h
  case makeFunc fn first cap =>
    refine .inr ⟨_, h, pure_value (s := Instr.makeFunc fn (first.map (ev e)) (cap.map (ev e))) (by unfold execOp; rw [ho]) fun W => ?_⟩
    have hm : ∀ a : Array Operand, a.map (ev e) = (a.toList.map (ev e)).toArray := fun a => by rw [← Array.toList_map]
    simp only [Instr.makeFunc, hm]; rfl
  case nilCheck x =>
    split at h
    · rename_i a ha
      exact .inr ⟨_, h, fun W => by unfold execOp; rw [ho]; simp [ha]⟩
    · first | exact .inl h | exact pr h
  case fieldAddr s x f =>
    split at h
    · rename_i b off0 off k ty ha hf
      refine .inr ⟨_, h, pure_value (s := Instr.fieldAt s (ev e x) f) (by unfold execOp; rw [ho]) fun W => ?_⟩
      rw [ha, run_fieldAt hG hf, add_none]
    · first | exact .inl h | exact pr h
  case convert src dst x =>
    split at h
    · rename_i tj ti k a hs hd hx
      split at h
      · rename_i k' hk'
        refine .inr ⟨_, h.h _ rfl, pure_value (s := Go.convert src dst (ev e x)) (by unfold execOp; rw [ho]) fun W => ?_⟩
        have h1 := (hG.look hs).1
        have h2 := (hG.look hd).1
        rw [hk'] at h2
        simp [Go.convert, run_und h1, run_und h2, Result.andThen, hx, Conv.intToInt]
      · first | exact .inl h | exact pr h
    · first | exact .inl h | exact pr h
  case build t parts =>
    split at h
    · rename_i ti hl
      split at h
      · rename_i fs hd
        split at h
        · rename_i cs ha hf
          exact .inr ⟨_, h, pure_value (s := Instr.build t (parts.map fun (i, x) => (i, ev e x))) (by unfold execOp; rw [ho]) (fun W => run_build hG hl hd ha hf W)⟩
        · exact h.elim
      · first | exact .inl h | exact pr h
    · exact h.elim
  case indexAddr t x i =>
    split at h
    · rename_i ti b off len cap k j hl hx hi
      split at h
      · rename_i el hd
        split at h
        · rename_i tj hj
          refine .inr ⟨_, h.2, pure_value (s := Instr.indexAt t (ev e x) (ev e i)) (by unfold execOp; rw [ho]) fun W => ?_⟩
          rw [hx, hi]
          exact run_indexAt hG hl hd hj h.1 W
        · exact h.elim
      · first | exact .inl h | exact pr h
    · first | exact .inl h | exact pr h
  case call c =>
    split at h
    · rename_i hc
      split at h
      · rename_i x t hx ht
        split at h
        · rename_i ti a m cp hl hv
          split at h
          · rename_i el hd
            exact .inr ⟨_, h, builtin_pure ho hc hx ht (fun cs W => by simp only [builtin, hv, Sem.run_bind, run_len hG hl hd W]; rfl)⟩
          · first | exact .inl h | exact pr h
        · rename_i ti s hl hv
          split at h
          · rename_i hd
            exact .inr ⟨_, h, builtin_pure ho hc hx ht (fun cs W => by simp only [builtin, hv, Sem.run_bind, run_lenS hG hl hd W]; rfl)⟩
          · first | exact .inl h | exact pr h
        · first | exact .inl h | exact pr h
      · first | exact .inl h | exact pr h
    · rename_i hc
      split at h
      · rename_i x t hx ht
        split at h
        · rename_i ti a m cp hl hv
          split at h
          · rename_i el hd
            exact .inr ⟨_, h, builtin_pure ho hc hx ht (fun cs W => by simp only [builtin, hv, Sem.run_bind, run_capS hG hl hd W]; rfl)⟩
          · first | exact .inl h | exact pr h
        · first | exact .inl h | exact pr h
      · first | exact .inl h | exact pr h
    · first | exact .inl h | exact pr h
  case slice t x lo hi mx =>
    split at h
    · rename_i ti a len cap hl hx
      split at h
      · rename_i el hd
        split at h
        · rename_i tj l u hj hlo hhi
          obtain ⟨⟨h0, h1, h2⟩, h⟩ := h
          have hu := (hG.look hl).1
          simp only [hd] at hu
          have hb := fun W => run_bounds (P := P) true cap W hlo hhi h0 h1 h2
          have hrun : ∀ W, (Instr.sliceAt t (.slice a len cap) (lo.map (ev e)) (hi.map (ev e)) none).run P W = .ok (.slice (if cap = l.toNat then a else a.map (·.add (l.toNat * tj.size))) (u.toNat - l.toNat) (cap - l.toNat)) W := fun W => by
            unfold Instr.sliceAt Instr.slice
            simp [run_und hu, Result.andThen, hb W, run_size (hG.look hj)]
          have hop : ∀ W, (execOp (ev e) o).run P W = .ok (.value (.slice (if cap = l.toNat then a else a.map (·.add (l.toNat * tj.size))) (u.toNat - l.toNat) (cap - l.toNat))) W := fun W => by
            unfold execOp
            rw [ho]
            simp only [hx, Option.map_none, Sem.run_bind, hrun W, Result.andThen_ok, Sem.run_pure]
          cases lo with
          | some y => exact .inr ⟨_, h, hop⟩
          | none =>
            simp only [bnd, Option.some.injEq] at hlo
            subst hlo
            refine .inr ⟨_, h, fun W => (hop W).trans ?_⟩
            simp only [Int.toNat_zero, Nat.zero_mul, Nat.sub_zero]
            congr 4
            split
            · rfl
            · cases a with
              | none => rfl
              | some a => simp [Addr.add]
        · exact pr h
      · exact pr h
    · rename_i ti s hl hx
      split at h
      · rename_i hd
        split at h
        · rename_i l u hlo hhi
          obtain ⟨⟨h0, h1, h2⟩, h⟩ := h
          have hu := (hG.look hl).1
          simp only [hd] at hu
          refine .inr ⟨_, h, fun W => ?_⟩
          have hb := run_bounds (P := P) false s.size W hlo hhi h0 h1 h2
          unfold execOp
          rw [ho]
          simp only [hx, Option.map_none, Instr.sliceAt, Sem.run_bind, run_und hu, Result.andThen_ok, Instr.slice]
          simp [run_und hu, Result.andThen, hb]
        · exact pr h
      · exact pr h
    · exact pr h
  all_goals first | exact .inl h | exact pr h

theorem op1_does (hG : Agree P Γ) {o : Oper} (h : op1 P Γ e o w K) : Does P (ev e) o w K := by
  unfold op1 at h
  split at h
  · rcases opP_spec (P := P) hG h with h | ⟨v, hk, hp⟩
    · exact Raw.does h
    · exact does_v (hp w) hk
  cases ho : o.op
  all_goals
    rw [ho] at h
    try simp only at h
  case load t a =>
    obtain ⟨v, h, hk⟩ := h.h
    exact does_value (s := Instr.loadAt t (ev e a)) (by unfold execOp; rw [ho]) h hk
  case store t a x =>
    obtain ⟨w', h, hk⟩ := h.h
    exact does_unit (s := Instr.storeAt t (ev e a) (ev e x)) (by unfold execOp; rw [ho]) h hk
  case alloc t =>
    split at h
    · rename_i ti hl
      exact does_value (s := Instr.alloc t true (.tuple #[])) (by unfold execOp; rw [ho]) (run_allocT (hG.look hl) w) (h.h _ _ (newB _ _))
    · exact h.elim
  case box t x => exact does_value (s := Instr.box t (ev e x)) (by unfold execOp; rw [ho]) (run_box t _ w) (h.h _ _ (newB _ _))
  case makeMap t r =>
    cases r with
    | none =>
      have h : New w (.map #[] 0) fun b w' => K (.map (some b)) w' := h
      refine does_value (s := Instr.makeMap t none) (by unfold execOp; rw [ho]; rfl) (v := .map (some w.heap.size)) (w' := w.alloc (.map #[] 0)) ?_ (h.h _ _ (newB _ _))
      simp only [Instr.makeMap, newObj]; rfl
    | some r => exact Raw.does h
  case buildSlice t len parts =>
    split at h
    · rename_i ti hl
      split at h
      · rename_i el hd
        split at h
        · rename_i tj hj
          split at h
          · rename_i cs hf
            have hop : execOp (ev e) o = (do let x ← Instr.buildSlice t len (parts.map fun (i, x) => (i, ev e x)); pure (Next.value x)) := by unfold execOp; rw [ho]
            have hrun := run_buildSlice (e := e) hG hl hd hj hf h.1 w
            exact does_value hop hrun (h.2.h _ _ (newB _ _))
          · exact h.elim
        · exact h.elim
      · exact h.elim
    · exact h.elim
  case call c =>
    split at h
    · rename_i f hc
      split at h
      · rename_i g first cap hf
        exact call_does ho hc hf h
      · rename_i l first cap hf
        exact yield_does ho hc hf h
      · exact Raw.does h
    · exact Raw.does h
  case mapUpdate t m k v =>
    obtain ⟨w', h, hk⟩ := h.h
    exact does_unit (s := Instr.mapUpdate t (ev e m) (ev e k) (ev e v)) (by unfold execOp; rw [ho]) h hk
  case entryStore t m s v =>
    obtain ⟨w', h, hk⟩ := h.h
    exact does_unit (s := Instr.entryStore t (ev e m) (ev e s) (ev e v)) (by unfold execOp; rw [ho]) h hk
  case lookup t m k ok =>
    obtain ⟨v, w', h, hk⟩ := h.h
    exact does_value (s := Instr.lookup t (ev e m) (ev e k) ok) (by unfold execOp; rw [ho]) h hk
  case mapEntry t m k =>
    obtain ⟨v, w', h, hk⟩ := h.h
    exact does_value (s := Instr.mapEntry t (ev e m) (ev e k)) (by unfold execOp; rw [ho]) h hk
  all_goals exact Raw.does h

end
end Go.Au

namespace Go.Au
open Go Go.RowKit

section
variable {P : Program} {Γ : List (Nat × TI)} {n : Nat} {ds : List Deferred}

theorem okO_congr {o : Oper} (h : okO n o = true) (e : Env) (hs : isSel o.op = false) : execOp (ag n ds e).eval o = execOp (ev e) o := by
  refine execOp_congr o ?_ ?_
  · intro cs b hb; rw [hb] at hs; cases hs
  · intro x hx
    simp only [okO, Bool.and_eq_true, List.all_eq_true] at h
    exact ag_eval (h.1.1.1 x (by simpa using hx))

theorem Does.toAg {o : Oper} (h : okO n o = true) (hs : isSel o.op = false) {e : Env} {w : World} {K : Value → World → Prop} (hd : Does P (ev e) o w K) : Does P (ag n ds e).eval o w K := by
  unfold Does at *
  rw [okO_congr h e hs]
  exact hd

theorem op1_notSel {e : Env} {o : Oper} {w : World} {K : Value → World → Prop} (h : op1 P Γ e o w K) : isSel o.op = false := by
  cases ho : o.op
  case select cs b =>
    unfold op1 at h
    rw [ho] at h
    obtain ⟨v, w', hr, _⟩ := h
    exfalso
    unfold execOp at hr
    rw [ho] at hr
    simp only [Sem.run_bind] at hr
    generalize Sem.run P _ w = r at hr
    cases r with
    | ok a w1 => simp [Result.andThen] at hr
    | halt x w1 => simp [Result.andThen] at hr
  all_goals rfl

/-- what the guard of an operation says -/
theorem gslot_eq : ∀ (l : List Oper) (j : Nat), gslot l j = (l[j]?).bind (·.dst)
  | [], j => by simp [gslot]
  | o :: r, 0 => by simp [gslot]
  | o :: r, j + 1 => by simp [gslot, gslot_eq r j]

theorem yielded_ag (ops : List Oper) (e : Env) (j : Nat) {s : Nat} (h : gslot ops j = some s) (hs : Nat.blt s n = true) {b : Bool} (hb : e s = .bool b) : yielded ops.toArray (ag n ds e).tmps j = some b := by
  unfold yielded
  rw [gslot_eq] at h
  have h' : (ops.toArray[j]?).bind (·.dst) = some s := by simpa using h
  rw [h']
  have ht : s < n := by simpa [Nat.blt_eq] using hs
  simp [ag, ht, hb]

theorem yielded_no (ops : List Oper) (e : Env) (j : Nat) {s : Nat} (h : gslot ops j = some s) (hs : Nat.blt s n = true) {x : Array Value} (hb : e s = .tuple x) : yielded ops.toArray (ag n ds e).tmps j = none := by
  unfold yielded
  rw [gslot_eq] at h
  have h' : (ops.toArray[j]?).bind (·.dst) = some s := by simpa using h
  rw [h']
  have ht : s < n := by simpa [Nat.blt_eq] using hs
  simp [ag, ht, hb]

/-- `grd` and what the model asks -/
theorem grd_spec {ops : List Oper} {e : Env} {o : Oper} {run skip : Prop} (h : grd ops e o run skip) (hj : ∀ j b, o.guard = some (j, b) → ∃ s, gslot ops j = some s ∧ Nat.blt s n = true) :
    (Region.wanted o (yielded ops.toArray (ag n ds e).tmps) = true ∧ run) ∨ (Region.wanted o (yielded ops.toArray (ag n ds e).tmps) = false ∧ skip) := by
  unfold grd at h
  cases hg : o.guard with
  | none =>
    rw [hg] at h
    exact .inl ⟨by simp [Region.wanted, hg], h⟩
  | some p =>
    obtain ⟨j, b⟩ := p
    rw [hg] at h
    obtain ⟨s, hs, hlt⟩ := hj j b hg
    simp only [hs] at h
    split at h
    · rename_i he
      exact .inl ⟨by simp [Region.wanted, hg, yielded_ag ops e j hs hlt he], h⟩
    · rename_i he
      exact .inr ⟨by simp [Region.wanted, hg, yielded_ag ops e j hs hlt he], h⟩
    · rename_i he
      exact .inr ⟨by simp [Region.wanted, hg, yielded_ag ops e j hs hlt he], h⟩
    · rename_i he
      exact .inl ⟨by simp [Region.wanted, hg, yielded_ag ops e j hs hlt he], h⟩
    · rename_i he
      exact .inr ⟨by simp [Region.wanted, hg, yielded_no ops e j hs hlt he], h⟩
    · exact h.elim

theorem okOps_guard {ops : List Oper} (h : okOps n ops = true) {o : Oper} (ho : o ∈ ops) : okO n o = true ∧ ∀ j b, o.guard = some (j, b) → ∃ s, gslot ops j = some s ∧ Nat.blt s n = true := by
  simp only [okOps, List.all_eq_true] at h
  have := h o ho
  rw [Bool.and_eq_true] at this
  refine ⟨this.1, fun j b hg => ?_⟩
  have h2 := this.2
  rw [hg] at h2
  simp only at h2
  split at h2
  · rename_i s hs; exact ⟨s, hs, h2⟩
  · cases h2

theorem okO_dst {o : Oper} (h : okO n o = true) : okD o.dst = true := by
  simp only [okO, Bool.and_eq_true] at h
  exact h.1.2
theorem okO_def {o : Oper} (h : okO n o = true) : ∀ c, o.op ≠ .defer c := by
  simp only [okO, Bool.and_eq_true, Bool.not_eq_true'] at h
  intro c hc
  rw [hc] at h
  exact absurd h.2 (by simp [isDef])

variable {rd : Option Nat}
theorem VCl_sound (hG : Agree P Γ) {ops : List Oper} (hok : okOps n ops = true) {Q : Exit → Env → World → Prop} {Q' : Env → World → Prop} (hQ : ∀ e w, Q' e w → Q .normal e w) :
    ∀ (l : List Oper), (∀ o ∈ l, o ∈ ops) → ∀ e w, VCl P Γ ops Q' l e w → wpListIn (fen rd) 0 P ops.toArray (lift n ds Q) l (ag n ds e) w
  | [], _, e, w, h => ⟨e, rfl, hQ _ _ h⟩
  | o :: rest, hm, e, w, h => by
    obtain ⟨h1, h2⟩ := okOps_guard hok (hm o List.mem_cons_self)
    have ih := VCl_sound hG hok hQ rest (fun x hx => hm x (List.mem_cons_of_mem _ hx))
    rw [VCl_cons] at h
    unfold wpListIn
    rcases grd_spec (n := n) (ds := ds) h h2 with ⟨hw, hr⟩ | ⟨hw, hr⟩
    · rw [if_pos hw]
      refine ((op1_does hG hr).toAg (ds := ds) h1 (op1_notSel hr)).upon (okO_def h1) ?_
      intro v w' hk
      rw [ag_put _ _ _ _ (okO_dst h1)]
      exact ih _ _ hk
    · rw [if_neg (by simp [hw]), ag_put _ _ _ _ (okO_dst h1)]
      exact ⟨fun _ _ => trivial, ih _ _ hr⟩

theorem WC_mono {c : Code} {Q Q' : Exit → Env → World → Prop} {e : Env} {w : World} (h : WC P n ds rd c Q e w) (hq : ∀ x e w, Q x e w → Q' x e w) : WC P n ds rd c Q' e w :=
  Code.wpIn_mono (fun _ _ _ ⟨e', ha, h'⟩ => ⟨e', ha, hq _ _ _ h'⟩) h

/-- THE WALK IS SOUND. -/
theorem VCC_sound (hG : Agree P Γ) : ∀ (c : Code) {Q : Exit → Env → World → Prop} {e : Env} {w : World}, okC n c = true → VCC P Γ n ds rd c Q e w → WC P n ds rd c Q e w
  | .skip, Q, e, w, _, h => wpIn_skip ⟨e, rfl, h⟩
  | .label l, Q, e, w, _, h => wpIn_label ⟨e, rfl, h⟩
  | .exit i, Q, e, w, _, h => wpIn_exit ⟨e, rfl, h⟩
  | .ret, Q, e, w, _, h => wpIn_ret ⟨e, rfl, h⟩
  | .seq a b, Q, e, w, hk, h => by
    simp only [okC, Bool.and_eq_true] at hk
    have ha := VCC_sound hG a hk.1 h
    refine wpIn_seq (Code.wpIn_mono ?_ ha)
    rintro x a w ⟨e', rfl, h'⟩
    cases x with
    | normal => exact VCC_sound hG b hk.2 h'
    | _ => exact ⟨e', rfl, h'⟩
  | .cond c a b, Q, e, w, hk, h => by
    simp only [okC, Bool.and_eq_true] at hk
    change (match ev e c with
      | .bool true => VCC P Γ n ds rd a Q e w
      | .bool false => VCC P Γ n ds rd b Q e w
      | _ => False) at h
    split at h
    · rename_i hc
      exact wpIn_cond_true ((ag_eval hk.1.1).trans hc) (VCC_sound hG a hk.1.2 h)
    · rename_i hc
      exact wpIn_cond_false ((ag_eval hk.1.1).trans hc) (VCC_sound hG b hk.2 h)
    · exact h.elim
  | .block id c, Q, e, w, hk, h => by
    have hc := VCC_sound hG c (by simpa [okC] using hk) h
    refine wpIn_block (Code.wpIn_mono ?_ hc)
    rintro x a w ⟨e', rfl, h'⟩
    cases x with
    | exit i =>
      simp only [Exit.inBlock]
      by_cases hi : i = id
      · subst hi
        simp only [show Nat.beq i i = true from Nat.beq_refl i, cond_true] at h'
        rw [if_pos rfl]; exact ⟨e', rfl, h'⟩
      · simp only [beqf hi, cond_false] at h'
        rw [if_neg hi]; exact ⟨e', rfl, h'⟩
    | _ => exact ⟨e', rfl, h'⟩
  | .region id ops false, Q, e, w, hk, h => by
    refine wpIn_region_list (ops := ops) ?_
    have := VCl_sound (ds := ds) (rd := rd) hG (n := n) (ops := ops.toList) (by simpa [okC] using hk) (Q := Q) (fun _ _ h => h) ops.toList (fun _ h => h) e w h
    simpa using this
  | .region id ops true, Q, e, w, hk, h => h hk
  | .loop c, Q, e, w, hk, h => h hk
  | .rangeFunc _ _ _ _, Q, e, w, hk, h => h hk
  | .scope _, Q, e, w, hk, h => h hk
  | .goto _, Q, e, w, hk, h => h hk
  | .refuse _, Q, e, w, hk, h => h hk

/-- slots with their values -/
def setL (e : Env) : List (Nat × Value) → Env
  | [] => e
  | (s, v) :: r => upd (setL e r) s v
def Has (e : Env) : List (Nat × Value) → Prop
  | [] => True
  | (s, v) :: r => e s = v ∧ Has e r

theorem setL_has {e : Env} : ∀ {l : List (Nat × Value)}, Has e l → setL e l = e
  | [], _ => rfl
  | (s, v) :: r, ⟨h, hr⟩ => by
    funext i
    simp only [setL, upd, setL_has hr]
    cases hb : Nat.beq i s with
    | false => rfl
    | true => rw [Nat.eq_of_beq_eq_true hb, ← h]; rfl

/-- a loop goes on -/
structure Again {σ : Type} (slots : σ → List (Nat × Value)) (Inv : σ → World → Prop) (m : σ → Nat) (p : σ) (e : Env) (w : World) (k : Value := undef) : Prop where
  h : ∃ p', Has e (slots p') ∧ Inv p' w ∧ m p' < m p
  mk_ : e mark = k

theorem setL_mark {e0 : Env} {l : List (Nat × Value)} {k : Value} (h : Has e0 l) (hm : e0 mark = k) : upd (setL e0 l) mark k = e0 := by
  funext i
  simp only [upd, setL_has h]
  cases hb : Nat.beq i mark with
  | false => rfl
  | true => rw [Nat.eq_of_beq_eq_true hb, hm]; rfl

/-- A loop: p says how far it is; `slots`: what the frame holds at a round's head (nothing else is known of it); `Inv`: of the world. -/
theorem loopK (hG : Agree P Γ) (mk : Value) {Q : Exit → Env → World → Prop} {e : Env} {w : World} {σ : Type} (slots : σ → List (Nat × Value)) (Inv : σ → World → Prop) (m : σ → Nat) (p0 : σ) {body : Code}
    (hmk0 : e mark = mk) (hs : Has e (slots p0)) (h0 : Inv p0 w)
    (round : ∀ p e0 w, Inv p w → VCC P Γ n ds rd body (fun x e' w' => match x with
      | .normal => Again slots Inv m p e' w' mk
      | x => Q x e' w') (upd (setL e0 (slots p)) mark mk) w) : Piece P n ds rd (.loop body) Q e w := by
  intro hk
  have hk' : okC n body = true := by simpa [okC] using hk
  intro b kk cs hro hb hr0
  have key : ∀ k p e1 w, m p = k → Has e1 (slots p) → e1 mark = mk → Inv p w →
      ∃ x a' w', lift n ds Q x a' w' ∧ ArrivesIn (Machine.fenced P (fen rd)) P (lone (b.atR (ag n ds e1) (.code body :: .inLoop body :: kk)) cs w) b kk cs x a' w' := by
    intro k
    induction k using Nat.strongRecOn with
    | _ k ih =>
      intro p e1 w hk hh hmk hI
      have hr := VCC_sound hG body hk' (round p e1 w hI)
      rw [setL_mark hh hmk] at hr
      obtain ⟨x, a₁, w₁, ⟨e₁, rfl, hq⟩, harr⟩ := hr b (.inLoop body :: kk) cs hro hb hr0
      cases x with
      | normal =>
        obtain ⟨p', hh', hI', hlt⟩ := Again.h hq
        obtain ⟨x₂, a₂, w₂, hq₂, harr₂⟩ := ih (m p') (hk ▸ hlt) p' e₁ w₁ rfl hh' (Again.mk_ hq) hI'
        exact ⟨x₂, a₂, w₂, hq₂, .of_steps (StepsIn.trans harr (.one (fenced_calm hb hr0 rfl) stepR_inLoop)) harr₂⟩
      | exit id => exact ⟨_, _, w₁, ⟨e₁, rfl, hq⟩, .pass (x := .inLoop body) rfl (fun _ _ => .inl (by simp)) harr⟩
      | goto l => exact ⟨_, _, w₁, ⟨e₁, rfl, hq⟩, .pass (x := .inLoop body) rfl (fun _ _ => .inl (by simp)) harr⟩
      | ret => exact ⟨_, _, w₁, ⟨e₁, rfl, hq⟩, .pass (x := .inLoop body) rfl (fun _ _ => .inl (by simp)) harr⟩
      | panic ch => exact ⟨_, _, w₁, ⟨e₁, rfl, hq⟩, .pass (x := .inLoop body) rfl (fun _ _ => .inl (by simp)) harr⟩
      | outgrown => exact ⟨_, _, w₁, ⟨e₁, rfl, hq⟩, .pass (x := .inLoop body) rfl (fun _ _ => .inl (by simp)) harr⟩
  obtain ⟨x, a', w', hq, harr⟩ := key _ p0 e w rfl hs hmk0 h0
  exact ⟨x, a', w', hq, .of_steps (.one (fenced_calm hb hr0 rfl) stepR_loop) harr⟩

theorem loop (hG : Agree P Γ) {Q : Exit → Env → World → Prop} {e : Env} {w : World} {σ : Type} (slots : σ → List (Nat × Value)) (Inv : σ → World → Prop) (m : σ → Nat) (p0 : σ) {body : Code}
    (hs : Has e (slots p0)) (h0 : Inv p0 w)
    (round : ∀ p e0 w, Inv p w → VCC P Γ n ds rd body (fun x e' w' => match x with
      | .normal => Again slots Inv m p e' w'
      | x => Q x e' w') (upd (setL e0 (slots p)) mark undef) w) (hmk : e mark = undef := by rfl) : Piece P n ds rd (.loop body) Q e w :=
  loopK hG undef slots Inv m p0 hmk hs h0 round

/-- outside S nothing that was there has turned -/
structure Chg (S : Nat → Prop) (w w' : World) : Prop where
  os : w'.os = w.os
  tape : w'.tape = w.tape
  drawn : w.drawn ≤ w'.drawn
  output : w'.output = w.output
  size : w.heap.size ≤ w'.heap.size
  block : ∀ k, k < w.heap.size → ¬ S k → w'.heap[k]? = w.heap[k]?

/-! ### a function -/
def envA : List Value → Env
  | [], _ => undef
  | v :: _, 0 => v
  | _ :: r, i + 1 => envA r i

theorem envA_eq (l : List Value) : ∀ i, envA l i = (l[i]?).getD undef := by
  induction l with
  | nil => intro i; cases i <;> rfl
  | cons v r ih => intro i; cases i with
    | zero => rfl
    | succ i => simpa [envA] using ih i

theorem ag_args (l : List Value) (n : Nat) (h : l.length ≤ n) (hm : n ≤ mark) : ({ tmps := l.toArray ++ Array.replicate (n - l.length) undef, defers := [] } : Act) = ag n [] (envA l) := by
  have hmk : envA l mark = undef := by rw [envA_eq, List.getElem?_eq_none (by omega)]; rfl
  simp only [ag, hmk]
  congr 1
  apply Array.ext
  · simp; omega
  · intro i h1 h2
    simp only [List.getElem_toArray, List.getElem_map, List.getElem_range, envA_eq]
    rw [Array.getElem_append]
    split
    · rename_i hi
      have hi' : i < l.length := by simpa using hi
      simp [hi']
    · rename_i hi
      have hi' : l.length ≤ i := by simpa using hi
      simp [hi']

def pack : List Value → Value
  | [v] => v
  | vs => .tuple vs.toArray

/-- what a function hands back -/
noncomputable def finL (P : Program) (R : Value → World → Prop) (e : Env) (w : World) (rs : List ResultVar) : List Value → Prop :=
  List.rec (motive := fun _ => List Value → Prop) (fun acc => R (pack acc) w)
    (fun r _ ih acc => match r with
      | .tmp a => ih (acc ++ [e a])
      | .cell a t => Ld P t (e a) w fun v => ih (acc ++ [v])) rs

/-- the marks are taken -/
noncomputable def finM (P : Program) (R : Value → World → Prop) (e : Env) (w : World) (rs : List ResultVar) (l : List Nat) : Prop :=
  List.casesOn (motive := fun _ => Prop) l (finL P R e w rs []) fun d r => (∀ x ∈ d :: r, w.heap[x]? = some (.deferred (some []))) ∧ (d :: r).Nodup ∧ ∀ w', w'.heap.size = w.heap.size → Chg (fun k => k ∈ d :: r) w w' → finL P R e w' rs []
/-- where a function ends -/
noncomputable def fin (P : Program) (rs : List ResultVar) (R : Value → World → Prop) : Exit → Env → World → Prop
  | .normal, e, w | .ret, e, w => finM P R e w rs (dsN (e mark))
  | _, _, _ => False

def okR (n : Nat) : List ResultVar → Bool
  | [] => true
  | .tmp t :: r => Nat.blt t n && okR n r
  | .cell t _ :: r => Nat.blt t n && okR n r

theorem asAddr_of {t : TypeId} {a v : Value} {w w' : World} (h : (Instr.loadAt t a).run P w = .ok v w') : (do loadVar t (← asAddr a) : Sem Value).run P w = .ok v w' := by
  unfold Instr.loadAt Instr.sureAddr at h
  rw [Sem.run_bind] at h ⊢
  cases a with
  | pointer q =>
    cases q with
    | none => simp [Result.andThen, runtimePanic, Sem.run_bind] at h
    | some q => simpa [asAddr, Result.andThen] using h
  | _ => simp [asAddr, Result.andThen] at h

theorem finL_spec {R : Value → World → Prop} {e : Env} {w : World} (f : ResultVar → Sem Value) (hf : ∀ u, f (.tmp u) = pure ((ag n ds e).tmps.getD u undef)) (hc : ∀ a t, f (.cell a t) = (do loadVar t (← asAddr ((ag n ds e).tmps.getD a undef)))) :
    ∀ (rs : List ResultVar) (acc : List Value), okR n rs = true → finL P R e w rs acc → ∃ vs, (rs.mapM f).run P w = .ok vs w ∧ R (pack (acc ++ vs)) w
  | [], acc, _, h => ⟨[], by simp, by rw [List.append_nil]; exact h⟩
  | .tmp a :: r, acc, hk, h => by
    simp only [okR, Bool.and_eq_true] at hk
    obtain ⟨vs, h1, h2⟩ := finL_spec f hf hc r (acc ++ [e a]) hk.2 h
    refine ⟨e a :: vs, ?_, by simpa using h2⟩
    rw [List.mapM_cons, hf, ag_get hk.1]
    simp [h1]
  | .cell a t :: r, acc, hk, h => by
    simp only [okR, Bool.and_eq_true] at hk
    obtain ⟨v, hv, h⟩ := Ld.h h
    obtain ⟨vs, h1, h2⟩ := finL_spec f hf hc r (acc ++ [v]) hk.2 h
    refine ⟨v :: vs, ?_, by simpa using h2⟩
    rw [List.mapM_cons, hc, ag_get hk.1, Sem.run_bind, asAddr_of hv]
    simp [h1]

theorem results_fin {R : Value → World → Prop} {e : Env} {w : World} {fn : Func} (hk : okR n fn.results.toList = true) (h : finL P R e w fn.results.toList []) : ∃ v, (results fn (ag n ds e).tmps).run P w = .ok v w ∧ R v w := by
  unfold results
  obtain ⟨vs, h1, h2⟩ := finL_spec (ds := ds) (n := n) (fun
    | .tmp t => pure ((ag n ds e).tmps.getD t undef)
    | .cell a t => do loadVar t (← asAddr ((ag n ds e).tmps.getD a undef))) (fun _ => rfl) (fun _ _ => rfl) fn.results.toList [] hk h
  refine ⟨pack vs, ?_, by simpa using h2⟩
  rw [show fn.results = fn.results.toList.toArray from rfl, List.mapM_toArray, Sem.run_bind, Sem.run_map]
  refine (congrArg (fun r => ((r : Result (List Value)).andThen _).andThen _) h1).trans ?_
  rcases vs with _ | ⟨v, _ | ⟨v2, r⟩⟩ <;> simp [pack, Result.andThen]

theorem leaves_marks {fn : Func} {R : Value → World → Prop} {e : Env} (hk : okR n fn.results.toList = true) : ∀ (l : List Nat) (w : World), (∀ x ∈ l, w.heap[x]? = some (.deferred (some []))) → l.Nodup →
    (∀ w', w'.heap.size = w.heap.size → Chg (fun k => k ∈ l) w w' → finL P R e w' fn.results.toList []) → LeavesInM Fence.wide 0 P fn (ag n [] e).tmps (Ret R) (l.map fun d => { target := .collected d, args := #[] }) .returning w
  | [], w, _, _, hf => results_fin hk (hf w rfl ⟨rfl, rfl, Nat.le_refl _, rfl, Nat.le_refl _, fun _ _ _ => rfl⟩)
  | d :: l, w, hd, hn, hf => by
    have hn' := List.nodup_cons.1 hn
    have hb := hd d List.mem_cons_self
    refine ⟨by simp, .inl ⟨d, w.putObj d (.deferred none), rfl, run_takeDeferred hb, ?_⟩⟩
    refine leaves_marks hk l _ (fun x hx => ?_) hn'.2 fun w' hs hc => hf w' ?_ ?_
    · rw [World.putObj_heap_other (show x ≠ d from fun he => hn'.1 (he ▸ hx))]
      exact hd x (List.mem_cons_of_mem _ hx)
    · rw [hs]; simp [World.putObj]
    · refine ⟨hc.os, hc.tape, hc.drawn, hc.output, ?_, fun k hk hnk => ?_⟩
      · have := hc.size; simpa [World.putObj] using this
      · rw [hc.block k (by simpa [World.putObj] using hk) fun h => hnk (List.mem_cons_of_mem _ h), World.putObj_heap_other (show k ≠ d from fun he => hnk (he ▸ List.mem_cons_self))]
/-- A call keeps its contract, if its body's walk does. -/
theorem call (hG : Agree P Γ) {f : FuncId} {fn : Func} {c : Code} {args : List Value} {w : World} {R : Value → World → Prop} (hf : P.funcs[f]? = some fn) (hb : fn.body = some c) (hn : fn.ntmps = n)
    (hok : (okC n c && okR n fn.results.toList && Nat.ble args.length n && Nat.ble n mark) = true) (h : VCC P Γ n [] none c (fin P fn.results.toList R) (envA args) w) : Calls P f args.toArray w (Ret R) := by
  rw [Bool.and_eq_true, Bool.and_eq_true, Bool.and_eq_true] at hok
  obtain ⟨⟨⟨h1, h2⟩, h3⟩, h4⟩ := hok
  have h3 := Nat.le_of_ble_eq_true h3
  have h4 := Nat.le_of_ble_eq_true h4
  refine callsIn_wide.1 (callsIn_of_wp_marks (F := Fence.wide) (n := 0) hf hb trivial ?_)
  rw [hn]
  have := ag_args args n h3 h4
  simp only [List.size_toArray] at this ⊢
  rw [this]
  refine Code.wpIn_mono ?_ (VCC_sound hG c h1 h)
  rintro x a w ⟨e, rfl, hq⟩
  have key : fin P fn.results.toList R .ret e w → LeavesInM Fence.wide 0 P fn (ag n [] e).tmps (Ret R) (ag n [] e).defers .returning w := by
    intro hq
    have hde : (ag n [] e).defers = (dsN (e mark)).map fun d => { target := .collected d, args := #[] } := by simp [ag, dsOf]
    rw [hde]
    change finM P R e w fn.results.toList (dsN (e mark)) at hq
    cases hl : dsN (e mark) with
    | nil =>
      rw [hl] at hq
      exact results_fin h2 hq
    | cons d r =>
      rw [hl] at hq
      obtain ⟨q1, q2, q3⟩ := hq
      exact leaves_marks h2 (d :: r) w q1 q2 q3
  cases x with
  | normal => exact key hq
  | ret => exact key hq
  | _ => exact hq.elim

end
end Go.Au
