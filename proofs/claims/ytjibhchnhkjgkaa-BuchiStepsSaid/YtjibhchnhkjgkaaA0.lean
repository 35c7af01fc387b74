/-
  A walk over the translated code as a function into propositions: the frame is a function from slots to values; pure operations reckon themselves; an operation with an effect leaves one named obligation. Own text of this workplace.
-/
import Derived.WalkKit
import Derived.RangeFuncLeaves
import Derived.OrdersIn
import Derived.RangeFuncSeq
set_option linter.unusedVariables false
set_option linter.unusedSimpArgs false
set_option linter.unusedSectionVars false
namespace Go.Au
open Go Go.RowKit

abbrev Env := Nat → Value
theorem beqf {a b : Nat} (h : ¬ a = b) : Nat.beq a b = false := by
  rw [← Bool.not_eq_true]; exact fun h' => h (Nat.eq_of_beq_eq_true h')
def upd (e : Env) (d : Nat) (v : Value) : Env := fun i => cond (Nat.beq i d) v (e i)
def putE (e : Env) : Option Nat → Value → Env
  | some d, v => upd e d v
  | none, _ => e
/-- where the frame's marks are told: a slot beyond all frames -/
def mark : Nat := 1000000
def dsN : Value → List Nat
  | .tuple vs => vs.toList.map fun | .map (some d) => d | _ => 0
  | _ => []
def dsOf (v : Value) : List Deferred := (dsN v).map fun d => { target := .collected d, args := #[] }
def pushD (d : Nat) : Value → Value
  | .tuple vs => .tuple (#[.map (some d)] ++ vs)
  | _ => .tuple #[.map (some d)]
theorem dsN_push (d : Nat) (v : Value) : dsN (pushD d v) = d :: dsN v := by
  cases v <;> simp [pushD, dsN]
/-- the frame of n slots that holds e -/
def ag (n : Nat) (ds : List Deferred) (e : Env) : Act := { tmps := ((List.range n).map e).toArray, defers := dsOf (e mark) ++ ds }

theorem ag_get {n ds e t} (h : Nat.blt t n = true) : (ag n ds e).tmps.getD t undef = e t := by
  have ht : t < n := by simpa [Nat.blt_eq] using h
  simp [ag, Array.getD, ht]

/-- a slot that may be written -/
def okD : Option Nat → Bool
  | some d => Nat.blt d mark
  | none => true
theorem putE_mark {e : Env} {d : Option Nat} (h : okD d = true) (v : Value) : putE e d v mark = e mark := by
  cases d with
  | none => rfl
  | some d =>
    have hd : d < mark := by simpa [okD, Nat.blt_eq] using h
    simp only [putE, upd, beqf (show ¬ mark = d by omega), cond_false]

theorem ag_put (n : Nat) (ds : List Deferred) (e : Env) (d : Option Nat) (h : okD d = true) (v : Value) : (ag n ds e).put d v = ag n ds (putE e d v) := by
  have hm := putE_mark (e := e) h v
  cases d with
  | none => rfl
  | some d =>
    simp only [Act.put, ag, hm]
    congr 1
    apply Array.ext
    · simp
    · intro i h1 h2
      simp at h1
      by_cases h : i = d
      · subst h; simp [upd, putE]
      · have : Nat.beq i d = false := beqf h
        simp [upd, putE, this, Array.getElem_setIfInBounds, Ne.symm h]

/-- what an operand is -/
def ev (e : Env) : Operand → Value
  | .tmp t => e t
  | .const v => v
  | .global g => .pointer (some ⟨g, 0, none⟩)
  | .func f => .func (.func f) #[] #[]

def okX (n : Nat) : Operand → Bool
  | .tmp t => Nat.blt t n
  | _ => true

theorem ag_eval {n ds e x} (h : okX n x = true) : (ag n ds e).eval x = ev e x := by
  cases x with
  | tmp t => exact ag_get h
  | _ => rfl

/-- what a walk knows of a type -/
structure TI where
  desc : TypeDesc
  size : Nat
  bytes : Nat
  zero : Value

def look : List (Nat × TI) → Nat → Option TI
  | [], _ => none
  | (a, x) :: r, t => cond (Nat.beq t a) (some x) (look r t)

def TIok (P : Program) (p : Nat × TI) : Prop :=
  P.underlying p.1 = some p.2.desc ∧ (P.info? p.1).map (fun i => (i.zero, i.size, i.bytes)) = some (some p.2.zero, p.2.size, p.2.bytes) ∧ p.2.zero.cells.size = p.2.size

/-- the table is the program's -/
def Agree (P : Program) (Γ : List (Nat × TI)) : Prop := ∀ p ∈ Γ, TIok P p

theorem Agree.look {P Γ} (h : Agree P Γ) {t ti} (hl : look Γ t = some ti) : TIok P (t, ti) := by
  induction Γ with
  | nil => simp [Au.look] at hl
  | cons p r ih =>
    obtain ⟨a, x⟩ := p
    simp only [Au.look] at hl
    cases hb : Nat.beq t a with
    | false => rw [hb] at hl; exact ih (fun p hp => h p (List.mem_cons_of_mem _ hp)) hl
    | true =>
      rw [hb] at hl
      simp only [cond_true, Option.some.injEq] at hl
      subst hl
      rw [Nat.eq_of_beq_eq_true hb]
      exact h _ List.mem_cons_self

theorem TIok.info {P t ti} (h : TIok P (t, ti)) : ∃ i, P.info? t = some i ∧ i.zero = some ti.zero ∧ i.size = ti.size ∧ i.bytes = ti.bytes := info_parts h.2.1

/-! ### obligations -/
structure NewB (w : World) (b : Nat) (o : Obj) (w' : World) : Prop where
  base : w.heap.size = b
  eq : w' = w.alloc o

/-- a new block -/
structure New (w : World) (o : Obj) (K : Nat → World → Prop) : Prop where
  h : ∀ b w', NewB w b o w' → K b w'
/-- a test parts the ways -/
structure Split (p : Prop) (K : Bool → Prop) : Prop where
  t : p → K true
  f : ¬ p → K false
/-- a number is reckoned -/
structure Ar (z : Int) (K : Int → Prop) : Prop where
  h : ∀ x, z = x → K x
/-- something must hold -/
structure Need (p : Prop) (K : Prop) : Prop where
  l : p
  r : K
/-- a value is loaded -/
structure Ld (P : Program) (t : TypeId) (a : Value) (w : World) (K : Value → Prop) : Prop where
  h : ∃ v, (Instr.loadAt t a).run P w = .ok v w ∧ K v
/-- a value is stored -/
structure St (P : Program) (t : TypeId) (a v : Value) (w : World) (K : World → Prop) : Prop where
  h : ∃ w', (Instr.storeAt t a v).run P w = .ok () w' ∧ K w'
/-- whatever else is run -/
structure Run (P : Program) (s : Sem Value) (w : World) (K : Value → World → Prop) : Prop where
  h : ∃ v w', s.run P w = .ok v w' ∧ K v w'
structure RunU (P : Program) (s : Sem Unit) (w : World) (K : World → Prop) : Prop where
  h : ∃ w', s.run P w = .ok () w' ∧ K w'
/-- a call comes back -/
def Ret (R : Value → World → Prop) : Ending → World → Prop
  | .returned v, w => R v w
  | _, _ => False
def callable (P : Program) (g : FuncId) : Bool := match P.funcs[g]? with
  | some fn => !(fn.name == "runtime.NumGoroutine") && fn.body.isSome
  | none => false
structure Call (P : Program) (g : FuncId) (args : List Value) (w : World) (K : Value → World → Prop) : Prop where
  l : callable P g = true
  r : Calls P g args.toArray w (Ret K)
/-- an operation that is walked by its own law -/
structure Raw (P : Program) (ρ : Operand → Value) (o : Oper) (w : World) (K : Value → World → Prop) : Prop where
  h : ∃ v w', (execOp ρ o).run P w = .ok (.value v) w' ∧ K v w'

/-- a value, whatever the world -/
def Pure (P : Program) (ρ : Operand → Value) (o : Oper) (v : Value) : Prop := ∀ W, (execOp ρ o).run P W = .ok (.value v) W
/-- an operation that neither reads nor writes memory is walked by its own law -/
structure PR (P : Program) (ρ : Operand → Value) (o : Oper) (K : Value → Prop) : Prop where
  h : ∃ v, Pure P ρ o v ∧ K v
/-- the loop's body is handed a value -/
structure Yield (P : Program) (l : Nat) (args : List Value) (w : World) (K : Value → World → Prop) : Prop where
  r : YieldAt Fence.wide 0 P l args.toArray w (Ret K)
def kq : IntKind → Nat | .i8 => 0 | .i16 => 1 | .i32 => 2 | .i64 => 3 | .u8 => 4 | .u16 => 5 | .u32 => 6 | .u64 => 7
theorem kq_inj {a b : IntKind} (h : Nat.beq (kq a) (kq b) = true) : a = b := by cases a <;> cases b <;> first | rfl | (simp [kq] at h)

def nth : List Value → Nat → Option Value
  | [], _ => none
  | v :: _, 0 => some v
  | _ :: r, n + 1 => nth r n
theorem nth_eq (l : List Value) : ∀ i, nth l i = l[i]? := by
  induction l with
  | nil => intro i; rfl
  | cons v r ih => intro i; cases i with
    | zero => rfl
    | succ i => simpa [nth] using ih i

theorem add_none (b o n : Nat) : (⟨b, o, none⟩ : Addr).add n = ⟨b, o + n, none⟩ := by
  unfold Addr.add
  split
  · rename_i h; subst h; rfl
  · rfl

/-- where a field begins, and how many cells it has -/
def fldL (Γ : List (Nat × TI)) : List Field → Nat → Option (Nat × Nat × TypeId)
  | [], _ => none
  | f :: _, 0 => match look Γ f.type with | some ti => some (f.offset, ti.size, f.type) | none => none
  | _ :: r, n + 1 => fldL Γ r n
def fld (Γ : List (Nat × TI)) (s : TypeId) (i : Nat) : Option (Nat × Nat × TypeId) := match look Γ s with
  | some ti => match ti.desc with
    | .struct fs => fldL Γ fs.toList i
    | _ => none
  | none => none

def isAggD : TypeDesc → Bool
  | .struct _ => true
  | .array _ _ => true
  | _ => false

/-- parts laid into cells -/
def lay : List Value → Nat → List Value → List Value
  | cs, _, [] => cs
  | cs, o, v :: r => lay (cs.set o v) (o + 1) r

def cellsL : Value → List Value
  | .agg cs => cs.toList
  | v => [v]

def allF (Γ : List (Nat × TI)) : List Field → Bool
  | [] => true
  | f :: r => match look Γ f.type with | some _ => allF Γ r | none => false

def fillF (Γ : List (Nat × TI)) (fs : List Field) (e : Env) : List Value → List (Nat × Operand) → Option (List Value)
  | cs, [] => some cs
  | cs, (i, x) :: r => match fldL Γ fs i with
    | some (off, size, _) => cond (Nat.beq (cellsL (ev e x)).length size && Nat.ble (off + size) cs.length) (fillF Γ fs e (lay cs off (cellsL (ev e x))) r) none
    | none => none

def fillA (size : Nat) (e : Env) : List Value → List (Nat × Operand) → Option (List Value)
  | cs, [] => some cs
  | cs, (i, x) :: r => cond (Nat.beq (cellsL (ev e x)).length size && Nat.ble (i * size + size) cs.length) (fillA size e (lay cs (i * size) (cellsL (ev e x))) r) none

def rep (z : List Value) : Nat → List Value
  | 0 => []
  | n + 1 => z ++ rep z n

/-- is it an operation that neither reads nor writes memory? -/
def isPure : Op → Bool
  | .move _ | .assign _ | .pick .. | .extract .. | .unOp .. | .makeFunc .. | .nilCheck _ | .fieldAddr .. | .binOp .. | .convert .. | .build .. | .indexAddr .. | .slice .. | .index .. | .field .. | .makeInterface .. | .typeAssert .. => true
  | .call c => match c.callee with
    | .builtin .len => match c.argTypes.toList with
      | [_] => true
      | _ => false
    | .builtin .cap => true
    | _ => false
  | _ => false

/-- cells that '==' compares one by one -/
def eqOk (Γ : List (Nat × TI)) : List Field → List Value → List Value → Bool
  | [], [], [] => true
  | f :: r, x :: xs, y :: ys => match look Γ f.type with
    | some ti => (match ti.desc, x, y with
      | .int _, .int k _, .int k' _ => Nat.beq (kq k) (kq k')
      | .bool, .bool _, .bool _ => true
      | .string, .string _, .string _ => true
      | _, _, _ => false) && !(f.name == "_") && eqOk Γ r xs ys
    | none => false
  | _, _, _ => false
/-- each field is one cell, one behind another -/
def offsOk : List Field → Nat → Bool
  | [], _ => true
  | f :: r, k => Nat.beq f.offset k && offsOk r (k + 1)
def bnd (e : Env) (x : Option Operand) (d : Int) : Option Int := match x with
  | none => some d
  | some x => match ev e x with
    | .int _ i => some i
    | _ => none
def moved (a : Option Addr) (o : Nat) : Option Addr := match o with
  | 0 => a
  | o => a.map (·.add o)
/-- one operation that neither reads nor writes memory; raw: what is not told here -/
def opP (P : Program) (Γ : List (Nat × TI)) (e : Env) (o : Oper) (raw : Prop) (K : Value → Prop) : Prop := match o.op with
  | .move x | .assign x => K (ev e x)
  | .pick c a b => match ev e c with
    | .bool true => K (ev e a)
    | .bool false => K (ev e b)
    | _ => False
  | .extract t i => match ev e t with
    | .tuple vs => match nth vs.toList i with
      | some v => K v
      | none => False
    | _ => False
  | .unOp op _ x => match op, ev e x with
    | .not, .bool b => K (.bool (!b))
    | .neg, .int k a => Ar (k.wrap (-a)) fun z => K (.int k z)
    | _, _ => PR P (ev e) o K
  | .makeFunc fn first cap => K (.func fn (first.toList.map (ev e)).toArray (cap.toList.map (ev e)).toArray)
  | .nilCheck x => match ev e x with
    | .pointer (some a) => K (.pointer (some a))
    | _ => PR P (ev e) o K
  | .fieldAddr s x f => match ev e x, fld Γ s f with
    | .pointer (some ⟨b, o1, none⟩), some (off, _ + 1, _) => K (.pointer (some ⟨b, o1 + off, none⟩))
    | _, _ => PR P (ev e) o K
  | .binOp op t x y _ => match ev e x, ev e y with
    | .int k a, .int k' b => match op with
      | .shl => Need (0 ≤ b) (Ar (k.wrap (a * 2 ^ (min b.toNat k.bits))) fun z => K (.int k z))
      | .shr => Need (0 ≤ b) (Ar (a.fdiv (2 ^ (min b.toNat k.bits))) fun z => K (.int k z))
      | .add => cond (Nat.beq (kq k) (kq k')) (Ar (k.wrap (a + b)) fun z => K (.int k z)) False
      | .sub => cond (Nat.beq (kq k) (kq k')) (Ar (k.wrap (a - b)) fun z => K (.int k z)) False
      | .mul => cond (Nat.beq (kq k) (kq k')) (Ar (k.wrap (a * b)) fun z => K (.int k z)) False
      | .quo => cond (Nat.beq (kq k) (kq k')) (Need (b ≠ 0) (Ar (k.wrap (a.tdiv b)) fun z => K (.int k z))) False
      | .rem => cond (Nat.beq (kq k) (kq k')) (Need (b ≠ 0) (Ar (a.tmod b) fun z => K (.int k z))) False
      | .and => cond (Nat.beq (kq k) (kq k')) (Ar (bits .and k a b) fun z => K (.int k z)) False
      | .or => cond (Nat.beq (kq k) (kq k')) (Ar (bits .or k a b) fun z => K (.int k z)) False
      | .xor => cond (Nat.beq (kq k) (kq k')) (Ar (bits .xor k a b) fun z => K (.int k z)) False
      | .andNot => cond (Nat.beq (kq k) (kq k')) (Ar (bits .andNot k a b) fun z => K (.int k z)) False
      | .eql => cond (Nat.beq (kq k) (kq k')) (Split (a = b) fun z => K (.bool z)) False
      | .neq => cond (Nat.beq (kq k) (kq k')) (Split (¬ a = b) fun z => K (.bool z)) False
      | .lss => cond (Nat.beq (kq k) (kq k')) (Split (a < b) fun z => K (.bool z)) False
      | .leq => cond (Nat.beq (kq k) (kq k')) (Split (a ≤ b) fun z => K (.bool z)) False
      | .gtr => cond (Nat.beq (kq k) (kq k')) (Split (b < a) fun z => K (.bool z)) False
      | .geq => cond (Nat.beq (kq k) (kq k')) (Split (b ≤ a) fun z => K (.bool z)) False
    | .string a, .string b => match op with
      | .eql => Split (a = b) fun z => K (.bool z)
      | .neq => Split (¬ a = b) fun z => K (.bool z)
      | .add => Need (((a.size + b.size : Nat) : Int) ≤ 9223372036854775807) (K (.string (a ++ b)))
      | _ => PR P (ev e) o K
    | .bool a, .bool b => match op, look Γ t with
      | .eql, some ti => match ti.desc with
        | .bool => Split (a = b) fun z => K (.bool z)
        | _ => PR P (ev e) o K
      | .neq, some ti => match ti.desc with
        | .bool => Split (¬ a = b) fun z => K (.bool z)
        | _ => PR P (ev e) o K
      | _, _ => PR P (ev e) o K
    | .agg as, .agg bs => match op with
      | .eql => match look Γ t with
        | some ti => match ti.desc with
          | .struct fs => cond (eqOk Γ fs.toList as.toList bs.toList && offsOk fs.toList 0) (Need (P.stoodInHeld t = false ∧ P.eqGuardType P.depth t = false) (Split (as = bs) fun z => K (.bool z))) (PR P (ev e) o K)
          | _ => PR P (ev e) o K
        | none => PR P (ev e) o K
      | .neq => match look Γ t with
        | some ti => match ti.desc with
          | .struct fs => cond (eqOk Γ fs.toList as.toList bs.toList && offsOk fs.toList 0) (Need (P.stoodInHeld t = false ∧ P.eqGuardType P.depth t = false) (Split (¬ as = bs) fun z => K (.bool z))) (PR P (ev e) o K)
          | _ => PR P (ev e) o K
        | none => PR P (ev e) o K
      | _ => PR P (ev e) o K
    | _, _ => PR P (ev e) o K
  | .slice t x lo hi mx => match mx, look Γ t, ev e x with
    | none, some ti, .slice a len cap => match ti.desc with
      | .slice el => match look Γ el, bnd e lo 0, bnd e hi (len : Int) with
        | some tj, some l, some h => Need (0 ≤ l ∧ l ≤ h ∧ h ≤ (cap : Int)) (match lo with
          | none => K (.slice a h.toNat cap)
          | some _ => K (.slice (if cap = l.toNat then a else a.map (·.add (l.toNat * tj.size))) (h.toNat - l.toNat) (cap - l.toNat)))
        | _, _, _ => PR P (ev e) o K
      | _ => PR P (ev e) o K
    | none, some ti, .string s => match ti.desc with
      | .string => match bnd e lo 0, bnd e hi (s.size : Int) with
        | some l, some h => Need (0 ≤ l ∧ l ≤ h ∧ h ≤ (s.size : Int)) (K (.string (s.extract l.toNat h.toNat)))
        | _, _ => PR P (ev e) o K
      | _ => PR P (ev e) o K
    | _, _, _ => PR P (ev e) o K
  | .index .. => PR P (ev e) o K
  | .field .. => PR P (ev e) o K
  | .makeInterface .. => PR P (ev e) o K
  | .typeAssert .. => PR P (ev e) o K
  | .convert src dst x => match look Γ src, look Γ dst, ev e x with
    | some _, some ti, .int _ a => match ti.desc with
      | .int k' => Ar (k'.wrap a) fun z => K (.int k' z)
      | _ => raw
    | _, _, _ => raw
  | .build t parts => match look Γ t with
    | some ti => match ti.desc with
      | .struct fs => match allF Γ fs.toList, fillF Γ fs.toList e (cellsL ti.zero) parts.toList with
        | true, some cs => K (.agg cs.toArray)
        | _, _ => False
      | _ => PR P (ev e) o K
    | none => False
  | .indexAddr t x i => match look Γ t, ev e x, ev e i with
    | some ti, .slice (some ⟨b, o1, none⟩) len _, .int _ j => match ti.desc with
      | .slice el => match look Γ el with
        | some tj => Need (0 ≤ j ∧ j < (len : Int)) (K (.pointer (some ⟨b, o1 + j.toNat * tj.size, none⟩)))
        | none => False
      | _ => PR P (ev e) o K
    | _, _, _ => PR P (ev e) o K
  | .call c => match c.callee with
    | .builtin .len => match c.args.toList, c.argTypes.toList with
      | [x], [t] => match look Γ t, ev e x with
        | some ti, .slice _ m _ => match ti.desc with
          | .slice _ => K (.int .i64 m)
          | _ => raw
        | some ti, .string s => match ti.desc with
          | .string => K (.int .i64 s.size)
          | _ => raw
        | _, _ => raw
      | _, _ => raw
    | .builtin .cap => match c.args.toList, c.argTypes.toList with
      | [x], [t] => match look Γ t, ev e x with
        | some ti, .slice _ _ m => match ti.desc with
          | .slice _ => K (.int .i64 m)
          | _ => raw
        | _, _ => raw
      | _, _ => raw
    | _ => raw
  | _ => raw

/-- one operation -/
def op1 (P : Program) (Γ : List (Nat × TI)) (e : Env) (o : Oper) (w : World) (K : Value → World → Prop) : Prop := match isPure o.op with
  | true => opP P Γ e o (Raw P (ev e) o w K) fun v => K v w
  | false => match o.op with
    | .load t a => Ld P t (ev e a) w fun v => K v w
    | .store t a x => St P t (ev e a) (ev e x) w fun w' => K undef w'
    | .alloc t => match look Γ t with
      | some ti => New w (.cells (cellsL ti.zero).toArray t) fun b w' => K (.pointer (some ⟨b, 0, none⟩)) w'
      | none => False
    | .box t x => New w (.cells (cellsL (ev e x)).toArray t) fun b w' => K (.pointer (some ⟨b, 0, none⟩)) w'
    | .makeMap _ none => New w (.map #[] 0) fun b w' => K (.map (some b)) w'
    | .buildSlice t len parts => match look Γ t with
      | some ti => match ti.desc with
        | .slice el => match look Γ el with
          | some tj => match fillA tj.size e (rep (cellsL tj.zero) len) parts.toList with
            | some cs => Need (len * tj.size ≤ 16777216) (New w (.cells cs.toArray el) fun b w' => K (.slice (some ⟨b, 0, none⟩) len len) w')
            | none => False
          | none => False
        | _ => False
      | none => False
    | .call c => match c.callee with
      | .value f => match ev e f with
        | .func (.func g) first cap => Call P g (first.toList ++ c.args.toList.map (ev e) ++ cap.toList) w K
        | .func (.yield l) first _ => Yield P l (first.toList ++ c.args.toList.map (ev e)) w K
        | _ => Raw P (ev e) o w K
      | _ => Raw P (ev e) o w K
    | .mapUpdate t m k v => RunU P (Instr.mapUpdate t (ev e m) (ev e k) (ev e v)) w fun w' => K undef w'
    | .entryStore t m s v => RunU P (Instr.entryStore t (ev e m) (ev e s) (ev e v)) w fun w' => K undef w'
    | .lookup t m k ok => Run P (Instr.lookup t (ev e m) (ev e k) ok) w K
    | .mapEntry t m k => Run P (Instr.mapEntry t (ev e m) (ev e k)) w K
    | _ => Raw P (ev e) o w K

def gslot : List Oper → Nat → Option Nat
  | [], _ => none
  | o :: _, 0 => o.dst
  | _ :: r, n + 1 => gslot r n

def grd (ops : List Oper) (e : Env) (o : Oper) (run skip : Prop) : Prop := match o.guard with
  | none => run
  | some (j, b) => match gslot ops j with
    | some s => match e s, b with
      | .bool true, true => run
      | .bool true, false => skip
      | .bool false, true => skip
      | .bool false, false => run
      | .tuple _, _ => skip
      | _, _ => False
    | none => False

/-- operations in a row -/
noncomputable def VCl (P : Program) (Γ : List (Nat × TI)) (ops : List Oper) (Q : Env → World → Prop) (l : List Oper) : Env → World → Prop :=
  List.rec (motive := fun _ => Env → World → Prop) (fun e w => Q e w)
    (fun o _ ih e w => grd ops e o (op1 P Γ e o w fun v w' => ih (putE e o.dst v) w') (ih (putE e o.dst undef) w)) l
theorem VCl_nil (P : Program) (Γ : List (Nat × TI)) (ops : List Oper) (Q : Env → World → Prop) (e : Env) (w : World) : VCl P Γ ops Q [] e w = Q e w := rfl
theorem VCl_cons (P : Program) (Γ : List (Nat × TI)) (ops : List Oper) (Q : Env → World → Prop) (o : Oper) (rest : List Oper) (e : Env) (w : World) :
    VCl P Γ ops Q (o :: rest) e w = grd ops e o (op1 P Γ e o w fun v w' => VCl P Γ ops Q rest (putE e o.dst v) w') (VCl P Γ ops Q rest (putE e o.dst undef) w) := rfl

def lift (n : Nat) (ds : List Deferred) (Q : Exit → Env → World → Prop) : Exit → Act → World → Prop :=
  fun x a w => ∃ e, a = ag n ds e ∧ Q x e w

/-- anything goes; rd: in a round of a range over a function -/
def fen (rd : Option Nat) : Fence := { Fence.wide with round := rd }
def WC (P : Program) (n : Nat) (ds : List Deferred) (rd : Option Nat) (c : Code) (Q : Exit → Env → World → Prop) (e : Env) (w : World) : Prop :=
  c.wpIn (fen rd) 0 P (lift n ds Q) (ag n ds e) w

def isSel : Op → Bool
  | .select .. => true
  | _ => false
def isDef : Op → Bool
  | .defer .. => true
  | _ => false
def okO (n : Nat) (o : Oper) : Bool := o.op.operands.toList.all (okX n) && !(isSel o.op) && okD o.dst && !(isDef o.op)
def okOps (n : Nat) (l : List Oper) : Bool := l.all fun o => okO n o && (match o.guard with
  | some (j, _) => match gslot l j with | some s => Nat.blt s n | none => false
  | none => true)

def okC (n : Nat) : Code → Bool
  | .region _ ops _ => okOps n ops.toList
  | .seq a b => okC n a && okC n b
  | .cond c a b => okX n c && okC n a && okC n b
  | .block _ c => okC n c
  | .loop c => okC n c
  | .rangeFunc f ps a b => okX n f && okC n a && okC n b && (ps.toList.all fun t => Nat.blt t mark) && Nat.ble n mark
  | .scope c => okC n c
  | _ => true

/-- a piece of code that is walked by a rule of its own -/
def Piece (P : Program) (n : Nat) (ds : List Deferred) (rd : Option Nat) (c : Code) (K : Exit → Env → World → Prop) (e : Env) (w : World) : Prop :=
  okC n c = true → WC P n ds rd c K e w

noncomputable def VCC (P : Program) (Γ : List (Nat × TI)) (n : Nat) (ds : List Deferred) (rd : Option Nat) (c : Code) : (Exit → Env → World → Prop) → Env → World → Prop :=
  Code.rec (motive := fun _ => (Exit → Env → World → Prop) → Env → World → Prop)
    (fun K e w => K .normal e w)
    (fun id ops draw K e w => cond draw (Piece P n ds rd (.region id ops draw) K e w) (VCl P Γ ops.toList (K .normal) ops.toList e w))
    (fun _ _ iha ihb K e w => iha (fun x e w => match x with
      | .normal => ihb K e w
      | x => K x e w) e w)
    (fun c _ _ iha ihb K e w => match ev e c with
      | .bool true => iha K e w
      | .bool false => ihb K e w
      | _ => False)
    (fun id _ ih K e w => ih (fun x e w => match x with
      | .exit i => cond (Nat.beq i id) (K .normal e w) (K (.exit i) e w)
      | x => K x e w) e w)
    (fun c _ K e w => Piece P n ds rd (.loop c) K e w)
    (fun f ps a b _ _ K e w => Piece P n ds rd (.rangeFunc f ps a b) K e w)
    (fun i K e w => K (.exit i) e w)
    (fun c _ K e w => Piece P n ds rd (.scope c) K e w)
    (fun _ K e w => K .normal e w)
    (fun l K e w => Piece P n ds rd (.goto l) K e w)
    (fun K e w => K .ret e w)
    (fun s K e w => Piece P n ds rd (.refuse s) K e w) c

end Go.Au
