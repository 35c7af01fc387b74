/- Own text of this workplace: a part of the proofs of this place's statements. -/
import Derived.Deep.MidRow
import Derived.Deep.OwnRows
import Derived.Laws.AppendOwn
import Derived.Great.BuildSlice
import Derived.Maps.Keyed
import Derived.DeepKeys4
import Derived.StringKeys
import Derived.WalkKit
import Derived.Laws.MakeOwn
import Derived.RangeFuncKeeps
import Derived.RangeFuncNested
import Derived.Deep.Slices
import Derived.SizedLaws
import Derived.Deep.DeepAppendRoom
import Derived.Test.YtocoblgmjogalaaGreatDoorP0
import Derived.Test.YtocoblgmjogalaaGreatDoorG
set_option maxRecDepth 40000
set_option linter.unusedVariables false
set_option linter.unusedSimpArgs false
set_option linter.unusedSectionVars false
namespace Go.Au
open Go Go.RowKit

theorem Chg.refl (S : Nat → Prop) (w : World) : Chg S w w := ⟨rfl, rfl, Nat.le_refl _, rfl, Nat.le_refl _, fun _ _ _ => rfl⟩
theorem Chg.trans {S : Nat → Prop} {a b c : World} (h : Chg S a b) (k : Chg S b c) : Chg S a c :=
  ⟨k.os.trans h.os, k.tape.trans h.tape, Nat.le_trans h.drawn k.drawn, k.output.trans h.output, Nat.le_trans h.size k.size, fun i hi hs => (k.block i (Nat.lt_of_lt_of_le hi h.size) hs).trans (h.block i hi hs)⟩
theorem Chg.mono {S S' : Nat → Prop} {a b : World} (h : Chg S a b) (hs : ∀ k, S k → S' k) : Chg S' a b := ⟨h.os, h.tape, h.drawn, h.output, h.size, fun i hi hn => h.block i hi fun hk => hn (hs i hk)⟩
theorem Chg.drew {S : Nat → Prop} {a b : World} (h : Chg S a b) : Chg S a b.drew := ⟨h.os, h.tape, Nat.le_trans h.drawn (Nat.le_succ _), h.output, h.size, h.block⟩
theorem Chg.alloc (S : Nat → Prop) (w : World) (o : Obj) : Chg S w (w.alloc o) := ⟨rfl, rfl, Nat.le_refl _, rfl, by simp, fun k hk _ => Below.heap_alloc w o k hk⟩

abbrev Kp := Chg (fun _ => False)
/-- what a world may turn to while operations go in whatever order -/
structure Pre (S : World → World → Prop) : Prop where
  kp : ∀ {a b : World}, Kp a b → S a b
  trans : ∀ {a b c : World}, S a b → S b c → S a c
theorem Pre.refl {S : World → World → Prop} (h : Pre S) (w : World) : S w w := h.kp (Chg.refl _ w)
theorem preChg (S : Nat → Prop) : Pre (Chg S) := ⟨fun h => h.mono fun _ hf => hf.elim, fun h k => h.trans k⟩

/-- a predicate of worlds -/
abbrev DP := World → Prop
def getDs : List (Nat × DP) → Nat → DP
  | [], _ => fun _ => True
  | (i, d) :: r, j => cond (Nat.beq j i) d (getDs r j)

/-- what is done ahead of an operation, as the bits of a number -/
def maskOf (ms : List Nat) : List Edge → Nat
  | [] => 0
  | e :: r => cond (Region.binds .any e) (Nat.lor (Nat.lor (2 ^ e.on) ((ms[e.on]?).getD 0)) (maskOf ms r)) (maskOf ms r)
def masksFrom : List Nat → List Oper → List Nat
  | ms, [] => ms
  | ms, o :: r => masksFrom (ms ++ [maskOf ms o.after.toList]) r
def masks (ops : List Oper) : List Nat := masksFrom [] ops

/-- an operation that reads or makes memory, in whatever order: τ says which outcomes there are -/
structure Mk (S : World → World → Prop) (w0 : World) (Dn : World → Prop) (sem : World → (Value → World → Prop) → Prop) (K : Value → DP → Prop) : Prop where
  h : ∃ (τ : Type) (_ : Nonempty τ) (f : τ → Value) (F : τ → World → Prop),
    (∀ y W W', F y W → S W W' → F y W') ∧
    (∀ W, S w0 W → Dn W → sem W (fun v W' => S W W' ∧ ∃ y, v = f y ∧ F y W')) ∧
    ∀ y (D : DP), (∀ W, D W → F y W) → K (f y) D

def DnF (m : Nat) (Ds : List (Nat × DP)) (W : World) : Prop := ∀ j, m.testBit j = true → getDs Ds j W

def addD (Ds : List (Nat × DP)) (i : Nat) : Option DP → List (Nat × DP)
  | none => Ds
  | some D => (i, D) :: Ds

def opr (P : Program) (Γ : List (Nat × TI)) (S : World → World → Prop) (w0 : World) (Dn : World → Prop) (e : Env) (o : Oper) (K : Value → Option DP → Prop) : Prop := match isPure o.op with
  | true => opP P Γ e o False fun v => K v none
  | false => Mk S w0 Dn (op1 P Γ e o) fun v D => K v (some D)

/-- operations in whatever order their edges allow: as the walk reckons it -/
noncomputable def VCr (P : Program) (Γ : List (Nat × TI)) (S : World → World → Prop) (w0 : World) (ops : List Oper) (ms : List Nat) (Q : Env → List (Nat × DP) → Prop) (l : List (Nat × Oper)) : List (Nat × DP) → Env → Prop :=
  List.rec (motive := fun _ => List (Nat × DP) → Env → Prop) (fun Ds e => Q e Ds)
    (fun p _ ih Ds e => grd ops e p.2 (opr P Γ S w0 (DnF ((ms[p.1]?).getD 0) Ds) e p.2 fun v D => ih (addD Ds p.1 D) (putE e p.2.dst v)) (ih Ds (putE e p.2.dst undef))) l
theorem VCr_cons (P : Program) (Γ : List (Nat × TI)) (S : World → World → Prop) (w0 : World) (ops : List Oper) (ms : List Nat) (Q : Env → List (Nat × DP) → Prop) (i : Nat) (o : Oper) (rest : List (Nat × Oper)) (Ds : List (Nat × DP)) (e : Env) :
    VCr P Γ S w0 ops ms Q ((i, o) :: rest) Ds e = grd ops e o (opr P Γ S w0 (DnF ((ms[i]?).getD 0) Ds) e o fun v D => VCr P Γ S w0 ops ms Q rest (addD Ds i D) (putE e o.dst v))
      (VCr P Γ S w0 ops ms Q rest Ds (putE e o.dst undef)) := rfl

/-- an operation with its number; what it came to, if it is done -/
abbrev Nd := Nat × Oper × Option (Value × Option DP)

/-- the same, where one operation (xx: this one; px: it or what is ahead of it) may break U -/
structure MkU (S : World → World → Prop) (U : World → Prop) (px xx : Bool) (w0 : World) (Dn : World → Prop) (sem : World → (Value → World → Prop) → Prop) (K : Value → DP → Prop) : Prop where
  h : ∃ (τ : Type) (_ : Nonempty τ) (f : τ → Value) (F : τ → World → Prop),
    (∀ y W W', F y W → S W W' → F y W') ∧
    (∀ W, S w0 W → Dn W → (px = true → U W) → sem W (fun v W' => (S W W' ∧ (xx = false → U W → U W')) ∧ ∃ y, v = f y ∧ F y W')) ∧
    ∀ y (D : DP), (∀ W, D W → F y W) → K (f y) D
def oprS (P : Program) (Γ : List (Nat × TI)) (S : World → World → Prop) (U : World → Prop) (px xx : Bool) (w0 : World) (Dn : World → Prop) (e : Env) (o : Oper) (K : Value → Option DP → Prop) : Prop :=
  (isPure o.op = true ∧ ∃ v, Pure P (ev e) o v ∧ K v none) ∨ (isPure o.op = false ∧ MkU S U px xx w0 Dn (Does P (ev e) o) fun v D => K v (some D))
def pxOf (ms : List Nat) (x0 i : Nat) : Bool := Nat.beq i x0 || ((ms[x0]?).getD 0).testBit i

/-- the same, as it is: some operations are done -/
def VCs (P : Program) (Γ : List (Nat × TI)) (S : World → World → Prop) (U : World → Prop) (x0 : Nat) (w0 : World) (ops : List Oper) (ms : List Nat) (Q : Env → List (Nat × DP) → Prop) : List Nd → List (Nat × DP) → Env → Prop
  | [], Ds, e => Q e Ds
  | (i, o, some (v, D)) :: rest, Ds, e => VCs P Γ S U x0 w0 ops ms Q rest (addD Ds i D) (putE e o.dst v)
  | (i, o, none) :: rest, Ds, e => grd ops e o (oprS P Γ S U (pxOf ms x0 i) (Nat.beq i x0) w0 (DnF ((ms[i]?).getD 0) Ds) e o fun v D => VCs P Γ S U x0 w0 ops ms Q rest (addD Ds i D) (putE e o.dst v))
      (VCs P Γ S U x0 w0 ops ms Q rest Ds (putE e o.dst undef))

section
variable {P : Program} {Γ : List (Nat × TI)} {e : Env} {w : World} {S : World → World → Prop} {U : World → Prop} {x0 : Nat} {w0 : World} {ops : List Oper} {ms : List Nat} {Q : Env → List (Nat × DP) → Prop}

theorem Mk.mono {Dn sem} {K K' : Value → DP → Prop} (h : Mk S w0 Dn sem K) (hk : ∀ v D, K v D → K' v D) : Mk S w0 Dn sem K' := by
  obtain ⟨τ, hn, f, F, h1, h2, h3⟩ := h
  exact ⟨τ, hn, f, F, h1, h2, fun y D hD => hk _ _ (h3 y D hD)⟩

theorem MkU.mono {px xx Dn sem} {K K' : Value → DP → Prop} (h : MkU S U px xx w0 Dn sem K) (hk : ∀ v D, K v D → K' v D) : MkU S U px xx w0 Dn sem K' := by
  obtain ⟨τ, hn, f, F, h1, h2, h3⟩ := h
  exact ⟨τ, hn, f, F, h1, h2, fun y D hD => hk _ _ (h3 y D hD)⟩
theorem Mk.toU {px xx Dn} {e : Env} {o : Oper} {K : Value → DP → Prop} (hG : Agree P Γ) (h : Mk S w0 Dn (op1 P Γ e o) K) : MkU S (fun _ => True) px xx w0 Dn (Does P (ev e) o) K := by
  obtain ⟨τ, hn, f, F, h1, h2, h3⟩ := h
  exact ⟨τ, hn, f, F, h1, fun W a b _ => (op1_does hG (h2 W a b)).mono fun v W' ⟨c, d⟩ => ⟨⟨c, fun _ _ => trivial⟩, d⟩, h3⟩

theorem oprS_mono {px xx Dn} {o : Oper} {K K' : Value → Option DP → Prop} (h : oprS P Γ S U px xx w0 Dn e o K) (hk : ∀ v D, K v D → K' v D) : oprS P Γ S U px xx w0 Dn e o K' := by
  rcases h with ⟨hi, v, hp, h⟩ | ⟨hi, h⟩
  · exact .inl ⟨hi, v, hp, hk _ _ h⟩
  · exact .inr ⟨hi, h.mono fun v D => hk v (some D)⟩

theorem grd_cases {o : Oper} {a b : Prop} (h : grd ops e o a b) : (a ∧ ∀ a' b' : Prop, grd ops e o a' b' ↔ a') ∨ (b ∧ ∀ a' b' : Prop, grd ops e o a' b' ↔ b') := by
  unfold grd at *
  split at h
  · exact .inl ⟨h, fun a' b' => Iff.rfl⟩
  · split at h
    · split at h
      · exact .inl ⟨h, fun a' b' => Iff.rfl⟩
      · exact .inr ⟨h, fun a' b' => Iff.rfl⟩
      · exact .inr ⟨h, fun a' b' => Iff.rfl⟩
      · exact .inl ⟨h, fun a' b' => Iff.rfl⟩
      · exact .inr ⟨h, fun a' b' => Iff.rfl⟩
      · exact h.elim
    · exact h.elim

theorem grd_mono {o : Oper} {a b a' b' : Prop} (h : grd ops e o a b) (ha : a → a') (hb : b → b') : grd ops e o a' b' := by
  rcases grd_cases h with ⟨h, k⟩ | ⟨h, k⟩
  · exact (k _ _).2 (ha h)
  · exact (k _ _).2 (hb h)

theorem VCr_to (hG : Agree P Γ) : ∀ {l : List (Nat × Oper)} {Ds e}, VCr P Γ S w0 ops ms Q l Ds e → VCs P Γ S (fun _ => True) x0 w0 ops ms Q (l.map fun p => (p.1, p.2, none)) Ds e
  | [], Ds, e, h => h
  | (i, o) :: rest, Ds, e, h => by
    rw [VCr_cons] at h
    simp only [List.map_cons, VCs]
    refine grd_mono h ?_ (fun h => VCr_to hG h)
    intro h
    unfold opr at h
    split at h
    · rename_i hi
      rcases opP_spec (P := P) hG h with h | ⟨v, hk, hp⟩
      · exact h.elim
      · exact .inl ⟨hi, v, hp, VCr_to hG hk⟩
    · rename_i hi
      exact .inr ⟨hi, (h.mono fun v D h => VCr_to hG h).toU hG⟩

/-- an outcome at all -/
theorem oprS_some {px xx Dn} {o : Oper} {K : Value → Option DP → Prop} (h : oprS P Γ S U px xx w0 Dn e o K) : ∃ v D, K v D := by
  rcases h with ⟨_, v, _, h⟩ | ⟨_, τ, ⟨y⟩, f, F, _, _, h3⟩
  · exact ⟨v, _, h⟩
  · exact ⟨f y, _, h3 y (fun _ => False) fun _ h => h.elim⟩

/-- what a slot holds when these are gone through, if it is known -/
def slotv : List Nd → Env → Nat → Option Value
  | [], e, s => some (e s)
  | (_, o, d) :: r, e, s => if o.dst = some s then d.map (·.1) else slotv r e s

/-- what an operation looks at -/
def looks (ops : List Oper) (o : Oper) : List Nat :=
  (o.op.operands.toList.filterMap fun | .tmp t => some t | _ => none) ++ (match o.guard with
    | some (j, _) => (gslot ops j).toList
    | none => [])

def Agr (ops : List Oper) (A : List Nd) (e : Env) (ρ : Env) (o : Oper) : Prop := ∀ s ∈ looks ops o, slotv A e s = some (ρ s)

theorem ev_congr {o : Oper} {e e' : Env} (h : ∀ s ∈ looks ops o, e s = e' s) : ∀ x ∈ o.op.operands, ev e x = ev e' x := by
  intro x hx
  cases x with
  | tmp t => exact h t (List.mem_append_left _ (List.mem_filterMap.2 ⟨.tmp t, by simpa using hx, rfl⟩))
  | _ => rfl

theorem exec_congr {o : Oper} {e e' : Env} (hs : isSel o.op = false) (h : ∀ s ∈ looks ops o, e s = e' s) : execOp (ev e) o = execOp (ev e') o :=
  execOp_congr o (fun cs b hb => by rw [hb] at hs; cases hs) (ev_congr h)

theorem grd_congr {o : Oper} {e e' : Env} (h : ∀ s ∈ looks ops o, e s = e' s) (a b : Prop) : grd ops e o a b ↔ grd ops e' o a b := by
  unfold grd
  cases hg : o.guard with
  | none => exact Iff.rfl
  | some p =>
    obtain ⟨j, c⟩ := p
    simp only
    cases hs : gslot ops j with
    | none => exact Iff.rfl
    | some s =>
      have : e s = e' s := h s (List.mem_append_right _ (by simp [hg, hs]))
      simp only [this]

/-- operations, not pure, whose run is no call -/
def loudSem : Op → Bool
  | .load .. | .store .. | .alloc _ | .box .. | .makeMap .. | .buildSlice .. | .makeSlice .. | .slice .. | .index .. | .lookup .. | .mapUpdate .. | .mapEntry .. | .entryStore .. | .field .. | .makeInterface .. | .typeAssert .. | .range .. | .next .. => true
  | .call c => match c.callee with
    | .builtin .append | .builtin .copy | .builtin .max | .builtin .min | .builtin .delete | .builtin .clear | .builtin .len => true
    | _ => false
  | _ => false

theorem noEnter {o : Oper} (h : loudSem o.op = true) (ρ : Operand → Value) (w w' : World) (g : FuncId) (args : Array Value) : (execOp ρ o).run P w ≠ .ok (.enter g args) w' := by
  have val : ∀ s : Sem Value, execOp ρ o = (do let x ← s; pure (Next.value x)) → (execOp ρ o).run P w ≠ .ok (.enter g args) w' := by
    intro s hs he
    rw [hs, Sem.run_bind] at he
    cases hr : s.run P w <;> rw [hr] at he <;> simp [Result.andThen] at he
  have unt : ∀ s : Sem Unit, execOp ρ o = (do s; pure Next.skip) → (execOp ρ o).run P w ≠ .ok (.enter g args) w' := by
    intro s hs he
    rw [hs, Sem.run_bind] at he
    cases hr : s.run P w <;> rw [hr] at he <;> simp [Result.andThen] at he
  cases ho : o.op <;> rw [ho] at h <;> simp only [loudSem, reduceCtorEq, Bool.false_eq_true] at h
  case call c =>
    have he : execOp ρ o = (do let d ← resolve ρ c o.type; invoke d.target d.args) := by unfold execOp; rw [ho]
    split at h <;> rename_i hc <;> first
      | (simp only [resolve, hc, pure_bind, invoke, builtin] at he; exact val _ he)
      | cases h
  all_goals first
    | exact val _ (by unfold execOp; rw [ho])
    | exact unt _ (by unfold execOp; rw [ho])

theorem noRound {o : Oper} (h : loudSem o.op = true) (ρ : Operand → Value) (w w' : World) (l : Nat) (f : FuncId) (tmps : Array Value) (asn bs : Code) : (execOp ρ o).run P w ≠ .ok (.round l f tmps asn bs) w' := by
  have val : ∀ s : Sem Value, execOp ρ o = (do let x ← s; pure (Next.value x)) → (execOp ρ o).run P w ≠ .ok (.round l f tmps asn bs) w' := by
    intro s hs he
    rw [hs, Sem.run_bind] at he
    cases hr : s.run P w <;> rw [hr] at he <;> simp [Result.andThen] at he
  have unt : ∀ s : Sem Unit, execOp ρ o = (do s; pure Next.skip) → (execOp ρ o).run P w ≠ .ok (.round l f tmps asn bs) w' := by
    intro s hs he
    rw [hs, Sem.run_bind] at he
    cases hr : s.run P w <;> rw [hr] at he <;> simp [Result.andThen] at he
  cases ho : o.op <;> rw [ho] at h <;> simp only [loudSem, reduceCtorEq, Bool.false_eq_true] at h
  case call c =>
    have he : execOp ρ o = (do let d ← resolve ρ c o.type; invoke d.target d.args) := by unfold execOp; rw [ho]
    split at h <;> rename_i hc <;> first
      | (simp only [resolve, hc, pure_bind, invoke, builtin] at he; exact val _ he)
      | cases h
  all_goals first
    | exact val _ (by unfold execOp; rw [ho])
    | exact unt _ (by unfold execOp; rw [ho])

def RunsTo (P : Program) (ρ : Operand → Value) (o : Oper) (w : World) (v : Value) (w' : World) : Prop :=
  (execOp ρ o).run P w = .ok (.value v) w' ∨ ((execOp ρ o).run P w = .ok .skip w' ∧ v = undef)

theorem RunsTo.one {ρ o w v w' v2 w2} (h : RunsTo P ρ o w v w') (k : RunsTo P ρ o w v2 w2) : v2 = v ∧ w2 = w' := by
  rcases h with h | ⟨h, rfl⟩ <;> rcases k with k | ⟨k, rfl⟩ <;> rw [h] at k <;> simp at k
  · obtain ⟨rfl, rfl⟩ := k; exact ⟨rfl, rfl⟩
  · subst k; exact ⟨rfl, rfl⟩

theorem Does.runs {ρ o w} {K : Value → World → Prop} (h : Does P ρ o w K) (hs : loudSem o.op = true) : ∃ v w', RunsTo P ρ o w v w' ∧ K v w' := by
  rcases h with ⟨v, w', h, k⟩ | ⟨w', h, k⟩ | ⟨g, args, h, k⟩ | ⟨l, f, tmps, asn, bs, h, k⟩
  · exact ⟨v, w', .inl h, k⟩
  · exact ⟨_, w', .inr ⟨h, rfl⟩, k⟩
  · exact absurd h (noEnter hs _ _ _ _ _)
  · exact absurd h (noRound hs _ _ _ _ _ _ _ _)

theorem RunsTo.does {ρ o w v w'} {K : Value → World → Prop} (h : RunsTo P ρ o w v w') (k : K v w') : Does P ρ o w K := by
  rcases h with h | ⟨h, rfl⟩
  · exact .inl ⟨v, w', h, k⟩
  · exact .inr (.inl ⟨w', h, k⟩)

/-- the one outcome of an operation that is no call -/
def Res (P : Program) (S : World → World → Prop) (ops : List Oper) (ρ : Env) (o : Oper) (w : World) (v : Value) (od : Option DP) (w' : World) : Prop :=
  (grd ops ρ o True False ∧ RunsTo P (ev ρ) o w v w' ∧ S w w' ∧ od = (if isPure o.op = true then none else some (S w'))) ∨
  (grd ops ρ o False True ∧ v = undef ∧ w' = w ∧ od = none)

theorem grd_tf {ρ : Env} {o : Oper} (h : grd ops ρ o True False) (k : grd ops ρ o False True) : False := by
  rcases grd_cases h with ⟨_, h'⟩ | ⟨h', _⟩
  · exact (h' _ _).1 k
  · exact h'

theorem Res.one {ρ o w v od w' v2 od2 w2} (h : Res P S ops ρ o w v od w') (k : Res P S ops ρ o w v2 od2 w2) : v2 = v ∧ od2 = od ∧ w2 = w' := by
  rcases h with ⟨h1, h2, _, h4⟩ | ⟨h1, h2, h3, h4⟩ <;> rcases k with ⟨k1, k2, _, k4⟩ | ⟨k1, k2, k3, k4⟩
  · obtain ⟨rfl, rfl⟩ := h2.one k2
    exact ⟨rfl, by rw [h4, k4], rfl⟩
  · exact (grd_tf h1 k1).elim
  · exact (grd_tf k1 h1).elim
  · exact ⟨by rw [h2, k2], by rw [h4, k4], by rw [h3, k3]⟩

theorem getDs_add {Ds : List (Nat × DP)} {i : Nat} {D : Option DP} {m : Nat} (h : DnF m Ds w) (hD : ∀ d, D = some d → m.testBit i = true → d w) : DnF m (addD Ds i D) w := by
  intro j hj
  cases D with
  | none => exact h j hj
  | some d =>
    simp only [addD, getDs]
    cases hb : Nat.beq j i with
    | false => exact h j hj
    | true =>
      have := Nat.eq_of_beq_eq_true hb
      subst this
      exact hD d rfl hj

theorem slotv_congr {s : Nat} : ∀ (A : List Nd) {e e' : Env}, e s = e' s → slotv A e s = slotv A e' s
  | [], e, e', h => by simp [slotv, h]
  | (i, o, d) :: r, e, e', h => by simp only [slotv]; split; rfl; exact slotv_congr r h
theorem slotv_free {s : Nat} : ∀ (A : List Nd) (e : Env), (∀ n ∈ A, n.2.1.dst ≠ some s) → slotv A e s = some (e s)
  | [], e, _ => rfl
  | (i, o, d) :: r, e, h => by
    simp only [slotv]
    rw [if_neg (h _ List.mem_cons_self)]
    exact slotv_free r e fun n hn => h n (List.mem_cons_of_mem _ hn)
theorem putE_other {e : Env} {d : Option Nat} {v : Value} {s : Nat} (h : d ≠ some s) : putE e d v s = e s := by
  cases d with
  | none => rfl
  | some d =>
    simp only [putE, upd]
    rw [beqf (fun hc => h (by rw [hc]))]
    rfl
theorem putE_same {e : Env} {v : Value} {s : Nat} : putE e (some s) v s = v := by
  simp only [putE, upd]
  rw [show Nat.beq s s = true from Nat.beq_refl s]
  rfl

/-- each slot is written once -/
def Once (A : List Nd) : Prop := A.Pairwise fun a b => ∀ s, a.2.1.dst = some s → b.2.1.dst ≠ some s

theorem slotv_done {s : Nat} {i : Nat} {o : Oper} {v : Value} {D : Option DP} {A : List Nd} {e : Env} (h : Once ((i, o, some (v, D)) :: A)) : slotv A (putE e o.dst v) s = slotv ((i, o, some (v, D)) :: A) e s := by
  simp only [slotv]
  split
  · rename_i hd
    rw [slotv_free A _ fun n hn => (List.pairwise_cons.1 h).1 n hn s hd, hd, putE_same]
    rfl
  · rename_i hd
    exact slotv_congr A (putE_other hd)

/-- AN OPERATION THAT IS NO CALL GOES AHEAD OF OTHERS. -/
theorem exec_sem (hG : Agree P Γ) (hS : Pre S) {i : Nat} {o : Oper} {B : List Nd} {ρ : Env} (hs : isPure o.op = true ∨ loudSem o.op = true) (hsel : isSel o.op = false) (hw : S w0 w) (hux : pxOf ms x0 i = true → U w) :
    ∀ (A : List Nd) (Ds : List (Nat × DP)) (e : Env), Once A → VCs P Γ S U x0 w0 ops ms Q (A ++ (i, o, none) :: B) Ds e → Agr ops A e ρ o → DnF ((ms[i]?).getD 0) Ds w →
      (∀ n ∈ A, match n.2.2 with | some (_, some D) => D w | some (_, none) => True | none => ((ms[i]?).getD 0).testBit n.1 = false) →
      ∃ v od w', Res P S ops ρ o w v od w' ∧ (Nat.beq i x0 = false → U w → U w') ∧ VCs P Γ S U x0 w0 ops ms Q (A ++ (i, o, some (v, od)) :: B) Ds e := by
  intro A
  induction A with
  | nil =>
    intro Ds e _ h hA hD _
    have hA' : ∀ s ∈ looks ops o, e s = ρ s := fun s hm => Option.some.inj (hA s hm)
    have hex := exec_congr hsel hA'
    simp only [List.nil_append, VCs] at h
    rcases grd_cases h with ⟨h, hg⟩ | ⟨h, hg⟩
    · have hgr : grd ops ρ o True False := (grd_congr hA' _ _).1 ((hg _ _).2 trivial)
      rcases h with ⟨hi, v, hp, hk⟩ | ⟨hi, τ, hn, f, F, h1, h2, h3⟩
      · refine ⟨v, none, w, .inl ⟨hgr, .inl ?_, hS.refl _, by rw [if_pos hi]⟩, fun _ h => h, hk⟩
        rw [← hex]; exact hp w
      · have hl : loudSem o.op = true := hs.resolve_left (by rw [hi]; simp)
        obtain ⟨v, w', hr, ⟨hc, hu⟩, y, rfl, hF⟩ := (h2 w hw hD hux).runs hl
        refine ⟨f y, some (S w'), w', .inl ⟨hgr, ?_, hc, by rw [if_neg (by rw [hi]; simp)]⟩, hu, ?_⟩
        · unfold RunsTo at *; rw [← hex]; exact hr
        · exact h3 y _ fun W hW => h1 y w' W hF hW
    · exact ⟨undef, none, w, .inr ⟨(grd_congr hA' _ _).1 ((hg _ _).2 trivial), rfl, rfl, rfl⟩, fun _ h => h, h⟩
  | cons a A ih =>
    obtain ⟨ia, oa, da⟩ := a
    intro Ds e ho h hA hD hn
    have ho' := (List.pairwise_cons.1 ho).2
    have hn' := hn _ List.mem_cons_self
    have hnA := fun n hm => hn n (List.mem_cons_of_mem _ hm)
    cases da with
    | some vd =>
      obtain ⟨va, Da⟩ := vd
      simp only [List.cons_append, VCs] at h ⊢
      refine ih _ _ ho' h ?_ (getDs_add hD ?_) hnA
      · intro s hm
        rw [slotv_done ho]
        exact hA s hm
      · intro d hd _
        subst hd
        exact hn'
    | none =>
      simp only [List.cons_append, VCs] at h ⊢
      have hAd : ∀ v, Agr ops A (putE e oa.dst v) ρ o := by
        intro v s hm
        have := hA s hm
        simp only [slotv] at this
        split at this
        · cases this
        · rename_i hd
          rw [← this]
          exact slotv_congr A (putE_other hd)
      have key : ∀ v D, VCs P Γ S U x0 w0 ops ms Q (A ++ (i, o, none) :: B) (addD Ds ia D) (putE e oa.dst v) →
          ∃ v' od w', Res P S ops ρ o w v' od w' ∧ (Nat.beq i x0 = false → U w → U w') ∧ VCs P Γ S U x0 w0 ops ms Q (A ++ (i, o, some (v', od)) :: B) (addD Ds ia D) (putE e oa.dst v) := fun v D hv =>
        ih _ _ ho' hv (hAd v) (getDs_add hD fun d _ hb => by rw [hn'] at hb; cases hb) hnA
      have key0 : VCs P Γ S U x0 w0 ops ms Q (A ++ (i, o, none) :: B) Ds (putE e oa.dst undef) →
          ∃ v' od w', Res P S ops ρ o w v' od w' ∧ (Nat.beq i x0 = false → U w → U w') ∧ VCs P Γ S U x0 w0 ops ms Q (A ++ (i, o, some (v', od)) :: B) Ds (putE e oa.dst undef) := fun hv => key undef none hv
      rcases grd_cases h with ⟨h, hg⟩ | ⟨h, hg⟩
      · obtain ⟨v1, D1, h1⟩ := oprS_some h
        obtain ⟨v', od, w', hr, hu, _⟩ := key _ _ h1
        refine ⟨v', od, w', hr, hu, (hg _ _).2 (oprS_mono h fun v D hk => ?_)⟩
        obtain ⟨v2, od2, w2, hr2, _, hk2⟩ := key _ _ hk
        obtain ⟨rfl, rfl, rfl⟩ := hr.one hr2
        exact hk2
      · obtain ⟨v', od, w', hr, hu, hk⟩ := key0 h
        exact ⟨v', od, w', hr, hu, (hg _ _).2 hk⟩


/-- A CALL GOES BEHIND ALL THAT IS AHEAD OF IT. -/
theorem exec_call (hG : Agree P Γ) (hS : Pre S) {i : Nat} {o : Oper} {B : List Nd} {ρ : Env} (hp : isPure o.op = false) (hsel : isSel o.op = false) (hw : S w0 w) (hux : pxOf ms x0 i = true → U w) :
    ∀ (A : List Nd) (Ds : List (Nat × DP)) (e : Env), Once A → VCs P Γ S U x0 w0 ops ms Q (A ++ (i, o, none) :: B) Ds e → Agr ops A e ρ o → DnF ((ms[i]?).getD 0) Ds w →
      (∀ n ∈ A, match n.2.2 with | some (_, some D) => D w | some (_, none) => True | none => False) →
      (grd ops ρ o True False ∧ Does P (ev ρ) o w fun v w' => (S w w' ∧ (Nat.beq i x0 = false → U w → U w')) ∧ ∃ D : DP, (∀ W W', D W → S W W' → D W') ∧ D w' ∧ VCs P Γ S U x0 w0 ops ms Q (A ++ (i, o, some (v, some D)) :: B) Ds e) ∨
      (grd ops ρ o False True ∧ VCs P Γ S U x0 w0 ops ms Q (A ++ (i, o, some (undef, none)) :: B) Ds e) := by
  intro A
  induction A with
  | nil =>
    intro Ds e _ h hA hD _
    have hA' : ∀ s ∈ looks ops o, e s = ρ s := fun s hm => Option.some.inj (hA s hm)
    have hex := exec_congr hsel hA'
    simp only [List.nil_append, VCs] at h
    rcases grd_cases h with ⟨h, hg⟩ | ⟨h, hg⟩
    · refine .inl ⟨(grd_congr hA' _ _).1 ((hg _ _).2 trivial), ?_⟩
      rcases h with ⟨hi, _⟩ | ⟨hi, τ, hn, f, F, h1, h2, h3⟩
      · rw [hp] at hi; cases hi
      · have hd := h2 w hw hD hux
        unfold Does at hd ⊢
        rw [hex] at hd
        refine Does.mono (ρ := ev ρ) hd ?_
        rintro v w' ⟨hc, y, rfl, hF⟩
        refine ⟨hc, S w', fun W W' h k => hS.trans h k, hS.refl _, ?_⟩
        exact h3 y _ fun W hW => h1 y w' W hF hW
    · exact .inr ⟨(grd_congr hA' _ _).1 ((hg _ _).2 trivial), h⟩
  | cons a A ih =>
    obtain ⟨ia, oa, da⟩ := a
    intro Ds e ho h hA hD hn
    have ho' := (List.pairwise_cons.1 ho).2
    have hn' := hn _ List.mem_cons_self
    have hnA := fun n hm => hn n (List.mem_cons_of_mem _ hm)
    cases da with
    | some vd =>
      obtain ⟨va, Da⟩ := vd
      simp only [List.cons_append, VCs] at h ⊢
      refine ih _ _ ho' h ?_ (getDs_add hD ?_) hnA
      · intro s hm
        rw [slotv_done ho]
        exact hA s hm
      · intro d hd _
        subst hd
        exact hn'
    | none => exact hn'.elim

/-- what a slot holds now -/
def slotd : List Nd → Env → Nat → Value
  | [], e, s => e s
  | (_, o, some (v, _)) :: r, e, s => if o.dst = some s then v else slotd r e s
  | (_, _, none) :: r, e, s => slotd r e s

theorem slotd_free {s : Nat} : ∀ (A : List Nd) (e : Env), (∀ n ∈ A, n.2.1.dst ≠ some s) → slotd A e s = e s
  | [], e, _ => rfl
  | (i, o, some (v, D)) :: r, e, h => by
    simp only [slotd]
    rw [if_neg (h _ List.mem_cons_self)]
    exact slotd_free r e fun n hn => h n (List.mem_cons_of_mem _ hn)
  | (i, o, none) :: r, e, h => by
    simp only [slotd]
    exact slotd_free r e fun n hn => h n (List.mem_cons_of_mem _ hn)

theorem slotd_append {s : Nat} {e : Env} : ∀ (A B : List Nd), (∀ n ∈ B, n.2.1.dst ≠ some s) → slotd (A ++ B) e s = slotd A e s
  | [], B, h => by rw [List.nil_append, slotd_free B e h]; rfl
  | (i, o, some (v, D)) :: r, B, h => by simp only [List.cons_append, slotd]; rw [slotd_append r B h]
  | (i, o, none) :: r, B, h => by simp only [List.cons_append, slotd]; rw [slotd_append r B h]

/-- where all writers of a slot are done -/
theorem slotv_slotd {s : Nat} {e : Env} : ∀ (A : List Nd), (∀ n ∈ A, n.2.1.dst = some s → n.2.2.isSome = true) → slotv A e s = some (slotd A e s)
  | [], _ => rfl
  | (i, o, some (v, D)) :: r, h => by
    simp only [slotv, slotd]
    split
    · rfl
    · exact slotv_slotd r fun n hn => h n (List.mem_cons_of_mem _ hn)
  | (i, o, none) :: r, h => by
    simp only [slotv, slotd]
    rw [if_neg (fun hd => by have := h _ List.mem_cons_self hd; cases this)]
    exact slotv_slotd r fun n hn => h n (List.mem_cons_of_mem _ hn)

/-- an operation is done now -/
theorem slotd_done {s i : Nat} {o : Oper} {v : Value} {od : Option DP} {e : Env} {B : List Nd} : ∀ (A : List Nd), Once (A ++ (i, o, none) :: B) →
    slotd (A ++ (i, o, some (v, od)) :: B) e s = putE (slotd (A ++ (i, o, none) :: B) e) o.dst v s
  | [], h => by
    simp only [List.nil_append, slotd]
    split
    · rename_i hd; rw [hd, putE_same]
    · rename_i hd; rw [putE_other hd]
  | (ia, oa, some (va, da)) :: A, h => by
    have h' := List.pairwise_cons.1 h
    have ih := slotd_done (s := s) (v := v) (od := od) (e := e) A h'.2
    simp only [List.cons_append, slotd]
    split
    · rename_i hd
      have hne : o.dst ≠ some s := by
        have := h'.1 (i, o, none) (by simp)
        exact this s hd
      rw [putE_other hne, if_pos hd]
    · rename_i hd
      rw [ih]
      by_cases hne : o.dst = some s
      · rw [hne, putE_same, putE_same]
      · rw [putE_other hne, putE_other hne, if_neg hd]
  | (ia, oa, none) :: A, h => by
    have ih := slotd_done (s := s) (v := v) (od := od) (e := e) A (List.pairwise_cons.1 h).2
    simp only [List.cons_append, slotd]
    rw [ih]

/-- all are done: where it ends -/
theorem all_done : ∀ (A : List Nd) (Ds : List (Nat × DP)) (e : Env), VCs P Γ S U x0 w0 ops ms Q A Ds e → Once A → (∀ n ∈ A, n.2.2.isSome = true) →
    (∀ j, getDs Ds j w) → (∀ n ∈ A, ∀ v D, n.2.2 = some (v, some D) → D w) → ∃ E Es, Q E Es ∧ (∀ s, E s = slotd A e s) ∧ ∀ j, getDs Es j w
  | [], Ds, e, h, _, _, hD, _ => ⟨e, Ds, h, fun _ => rfl, hD⟩
  | (i, o, none) :: r, Ds, e, h, _, hs, _, _ => by have := hs _ List.mem_cons_self; cases this
  | (i, o, some (v, D)) :: r, Ds, e, h, ho, hs, hD, hn => by
    simp only [VCs] at h
    have ho' := List.pairwise_cons.1 ho
    obtain ⟨E, Es, hq, he, hd⟩ := all_done r _ _ h ho'.2 (fun n hm => hs n (List.mem_cons_of_mem _ hm)) (by
      intro j
      cases D with
      | none => exact hD j
      | some d =>
        simp only [addD, getDs]
        cases Nat.beq j i with
        | false => exact hD j
        | true => exact hn _ List.mem_cons_self v d rfl) (fun n hm => hn n (List.mem_cons_of_mem _ hm))
    refine ⟨E, Es, hq, fun s => ?_, hd⟩
    rw [he]
    simp only [slotd]
    split
    · rename_i hd
      rw [slotd_free r _ fun n hm => ho'.1 n hm s hd, hd, putE_same]
    · rename_i hd
      have : ∀ (r : List Nd) (e e' : Env), e s = e' s → slotd r e s = slotd r e' s := by
        intro r
        induction r with
        | nil => intro e e' h; exact h
        | cons a r ih =>
          obtain ⟨ia, oa, da⟩ := a
          intro e e' h
          cases da with
          | none => simp only [slotd]; exact ih _ _ h
          | some vd => simp only [slotd]; split; rfl; exact ih _ _ h
      exact this r _ _ (putE_other hd)

end
end Go.Au

namespace Go.Au
open Go Go.RowKit

/-! ### the masks -/
theorem maskOf_bit {ms : List Nat} {j : Nat} : ∀ {es : List Edge}, (maskOf ms es).testBit j = true → ∃ e ∈ es, Region.binds .any e = true ∧ (j = e.on ∨ ((ms[e.on]?).getD 0).testBit j = true)
  | [], h => by simp [maskOf] at h
  | e :: r, h => by
    simp only [maskOf] at h
    cases hb : Region.binds .any e with
    | false =>
      rw [hb] at h
      obtain ⟨e', he, h'⟩ := maskOf_bit h
      exact ⟨e', List.mem_cons_of_mem _ he, h'⟩
    | true =>
      rw [hb] at h
      simp only [cond_true] at h
      change (((2 ^ e.on ||| (ms[e.on]?).getD 0) ||| maskOf ms r).testBit j) = true at h
      rw [Nat.testBit_or, Nat.testBit_or, Nat.testBit_two_pow, Bool.or_eq_true, Bool.or_eq_true] at h
      rcases h with (h | h) | h
      · exact ⟨e, List.mem_cons_self, hb, .inl (by simpa using (of_decide_eq_true h).symm)⟩
      · exact ⟨e, List.mem_cons_self, hb, .inr h⟩
      · obtain ⟨e', he, h'⟩ := maskOf_bit h
        exact ⟨e', List.mem_cons_of_mem _ he, h'⟩

theorem masksFrom_pre : ∀ (l : List Oper) (ms : List Nat) (i : Nat), i < ms.length → (masksFrom ms l)[i]? = ms[i]?
  | [], ms, i, h => rfl
  | o :: r, ms, i, h => by
    simp only [masksFrom]
    rw [masksFrom_pre r _ i (by simp; omega), List.getElem?_append_left h]

theorem masksFrom_get : ∀ (l : List Oper) (ms : List Nat) (i : Nat) (o : Oper), l[i]? = some o → ∃ ms', (masksFrom ms l)[ms.length + i]? = some (maskOf ms' o.after.toList) ∧ ∀ k, k < ms.length + i → ms'[k]? = (masksFrom ms l)[k]?
  | [], ms, i, o, h => by simp at h
  | p :: r, ms, 0, o, h => by
    simp at h
    subst h
    refine ⟨ms, ?_, fun k hk => ?_⟩
    · simp only [masksFrom]
      rw [masksFrom_pre r _ _ (by simp)]
      simp
    · simp only [masksFrom]
      rw [masksFrom_pre r _ k (by simp; omega), List.getElem?_append_left (by simpa using hk)]
  | p :: r, ms, i + 1, o, h => by
    obtain ⟨ms', h1, h2⟩ := masksFrom_get r (ms ++ [maskOf ms p.after.toList]) i o (by simpa using h)
    simp only [List.length_append, List.length_singleton] at h1 h2
    refine ⟨ms', ?_, fun k hk => ?_⟩
    · simp only [masksFrom]; rw [← h1]; congr 1; omega
    · simp only [masksFrom]; exact h2 k (by omega)

theorem mask_bit {ops : List Oper} {i j : Nat} {o : Oper} (ho : ops[i]? = some o) (hlt : ∀ e ∈ o.after.toList, Region.binds .any e = true → e.on < i) (h : (((masks ops)[i]?).getD 0).testBit j = true) :
    ∃ e ∈ o.after.toList, Region.binds .any e = true ∧ (j = e.on ∨ (((masks ops)[e.on]?).getD 0).testBit j = true) := by
  obtain ⟨ms', h1, h2⟩ := masksFrom_get ops [] i o ho
  simp only [List.length_nil, Nat.zero_add] at h1 h2
  unfold masks at h ⊢
  rw [h1] at h
  obtain ⟨e, he, hb, hj⟩ := maskOf_bit h
  refine ⟨e, he, hb, ?_⟩
  rw [h2 e.on (hlt e he hb)] at hj
  exact hj

/-! ### what is asked of a region -/
def okOrd (ops : List Oper) (ms : List Nat) (full : List (Nat × Oper)) : List (Nat × Oper) → List (Nat × Oper) → Bool
  | [], _ => true
  | (i, o) :: r, seen =>
    (seen.all fun p => !(Nat.beq p.1 i) && (match p.2.dst, o.dst with | some a, some b => !(Nat.beq a b) | _, _ => true)) &&
    ((looks ops o).all fun s => full.all fun p => (match p.2.dst with | some a => !(Nat.beq a s) | none => true) || (((ms[i]?).getD 0).testBit p.1 && seen.any fun q => Nat.beq q.1 p.1)) &&
    (isPure o.op || loudSem o.op || (seen.all fun p => ((ms[i]?).getD 0).testBit p.1)) && !(isSel o.op) && okOrd ops ms full r (seen ++ [(i, o)])

def nodes (ops : List Oper) (ord : List Nat) : List (Nat × Oper) := ord.map fun i => (i, (ops[i]?).getD default)

def edgesOk : List Oper → Nat → Bool
  | [], _ => true
  | o :: r, i => (o.after.toList.all fun e => !(Region.binds .any e) || Nat.blt e.on i) && edgesOk r (i + 1)

def tailOk (ms : List Nat) (i : Nat) : Nat → Bool
  | 0 => true
  | k + 1 => ((List.range i).all fun j => ((ms[i]?).getD 0).testBit j) && tailOk ms (i + 1) k

def regOk (ops : List Oper) (m : Nat) (ord : List Nat) : Bool :=
  Nat.ble m ops.length && Nat.beq ord.length m && (ord.all fun i => Nat.blt i m) && ((List.range m).all fun i => ord.contains i) && edgesOk ops 0 && tailOk (masks ops) m (ops.length - m) && okOrd ops (masks ops) (nodes ops ord) (nodes ops ord) []

theorem edgesOk_spec : ∀ {l : List Oper} {k : Nat}, edgesOk l k = true → ∀ {i : Nat} {o : Oper}, l[i]? = some o → ∀ e ∈ o.after.toList, Region.binds .any e = true → e.on < k + i
  | [], k, _, i, o, ho, e, he, hb => by simp at ho
  | p :: r, k, h, 0, o, ho, e, he, hb => by
    simp at ho
    subst ho
    simp only [edgesOk, Bool.and_eq_true, List.all_eq_true] at h
    have := h.1 e he
    rw [hb] at this
    simpa [Nat.blt_eq] using this
  | p :: r, k, h, i + 1, o, ho, e, he, hb => by
    simp only [edgesOk, Bool.and_eq_true] at h
    have := edgesOk_spec h.2 (i := i) (by simpa using ho) e he hb
    omega

theorem tailOk_spec {ms : List Nat} : ∀ {k i : Nat}, tailOk ms i k = true → ∀ t, i ≤ t → t < i + k → ∀ j, j < t → ((ms[t]?).getD 0).testBit j = true
  | 0, i, _, t, h1, h2, _, _ => by omega
  | k + 1, i, h, t, h1, h2, j, hj => by
    simp only [tailOk, Bool.and_eq_true, List.all_eq_true, List.mem_range] at h
    rcases Nat.eq_or_lt_of_le h1 with rfl | h1
    · exact h.1 j hj
    · exact tailOk_spec h.2 t h1 (by omega) j hj


theorem okOrd_spec {ops : List Oper} {ms : List Nat} {full : List (Nat × Oper)} : ∀ {r seen : List (Nat × Oper)}, okOrd ops ms full r seen = true → ∀ {A B : List (Nat × Oper)} {i : Nat} {o : Oper}, r = A ++ (i, o) :: B →
    (∀ p ∈ seen ++ A, p.1 ≠ i ∧ ∀ s, p.2.dst = some s → o.dst ≠ some s) ∧
    (∀ s ∈ looks ops o, ∀ p ∈ full, p.2.dst = some s → ((ms[i]?).getD 0).testBit p.1 = true ∧ ∃ q ∈ seen ++ A, q.1 = p.1) ∧
    (isPure o.op = true ∨ loudSem o.op = true ∨ ∀ p ∈ seen ++ A, ((ms[i]?).getD 0).testBit p.1 = true) ∧ isSel o.op = false
  | [], seen, _, A, B, i, o, h => by cases A <;> simp at h
  | (i0, o0) :: r, seen, h, [], B, i, o, hr => by
    simp only [List.nil_append, List.cons.injEq, Prod.mk.injEq] at hr
    obtain ⟨⟨rfl, rfl⟩, rfl⟩ := hr
    simp only [okOrd, Bool.and_eq_true, List.all_eq_true, Bool.or_eq_true, List.any_eq_true, Bool.not_eq_true'] at h
    obtain ⟨⟨⟨⟨h1, h2⟩, h3⟩, h4⟩, _⟩ := h
    rw [List.append_nil]
    refine ⟨fun p hp => ?_, fun s hs p hp hd => ?_, ?_, by simpa using h4⟩
    · obtain ⟨ha, hb⟩ := h1 p hp
      refine ⟨fun hc => (by rw [hc, show Nat.beq i0 i0 = true from Nat.beq_refl i0] at ha; cases ha), fun s hs hd => ?_⟩
      rw [hs, hd] at hb
      simp only [show Nat.beq s s = true from Nat.beq_refl s] at hb
      cases hb
    · rcases h2 s hs p hp with ha | ⟨ha, q, hq, hb⟩
      · rw [hd] at ha
        simp only [show Nat.beq s s = true from Nat.beq_refl s] at ha
        cases ha
      · exact ⟨ha, q, hq, Nat.eq_of_beq_eq_true hb⟩
    · rcases h3 with (h3 | h3) | h3
      · exact .inl h3
      · exact .inr (.inl h3)
      · exact .inr (.inr h3)
  | (i0, o0) :: r, seen, h, a :: A, B, i, o, hr => by
    simp only [List.cons_append, List.cons.injEq] at hr
    obtain ⟨rfl, hr⟩ := hr
    simp only [okOrd, Bool.and_eq_true] at h
    have := okOrd_spec h.2 hr
    simpa using this

section
variable {P : Program} {Γ : List (Nat × TI)} {n : Nat} {ds : List Deferred}

/-- among these the ways to an operation are closed -/
def Closed (ops : List Oper) (X : Nat → Prop) : Prop := ∀ i, X i → ∀ j, (((masks ops)[i]?).getD 0).testBit j = true → X j

theorem mask_lt {ops : List Oper} (he : edgesOk ops 0 = true) : ∀ i, i < ops.length → ∀ j, (((masks ops)[i]?).getD 0).testBit j = true → j < i := by
  intro i
  induction i using Nat.strongRecOn with
  | _ i ih =>
    intro hi j hj
    have ho : ops[i]? = some ops[i] := List.getElem?_eq_getElem hi
    obtain ⟨e, hm, hb, h⟩ := mask_bit ho (fun e hm hb => by have := edgesOk_spec he ho e hm hb; omega) hj
    have hlt := edgesOk_spec he ho e hm hb
    rcases h with rfl | h
    · omega
    · have := ih e.on (by omega) (by omega) j h
      omega

theorem ready_spec {ops : Array Oper} {listed : Array Bool} {i : Nat} (h : i ∈ Region.ready .any ops listed) :
    i < ops.size ∧ listed.getD i true = false ∧ ∀ o, ops[i]? = some o → ∀ e ∈ o.after.toList, Region.binds .any e = true → listed.getD e.on false = true := by
  unfold Region.ready at h
  simp only [List.mem_filter, List.mem_range, Bool.and_eq_true, Bool.not_eq_true'] at h
  obtain ⟨h1, h2, h3⟩ := h
  refine ⟨h1, h2, fun o ho e he hb => ?_⟩
  rw [ho] at h3
  simp only [Option.map_some, Option.getD_some, Array.all_eq_true_iff_forall_mem] at h3
  have := h3 e (by simpa using he)
  rw [hb] at this
  simpa using this

theorem mem_ready {ops : Array Oper} {listed : Array Bool} {i : Nat} (h1 : i < ops.size) (h2 : listed.getD i true = false) (h3 : ∀ o, ops[i]? = some o → ∀ e ∈ o.after.toList, Region.binds .any e = true → listed.getD e.on false = true) :
    i ∈ Region.ready .any ops listed := by
  unfold Region.ready
  simp only [List.mem_filter, List.mem_range, Bool.and_eq_true, Bool.not_eq_true']
  refine ⟨h1, h2, ?_⟩
  have ho : ops[i]? = some ops[i] := Array.getElem?_eq_getElem h1
  rw [ho]
  simp only [Option.map_some, Option.getD_some, Array.all_eq_true_iff_forall_mem]
  intro e he
  have := h3 _ ho e (by simpa using he)
  cases hb : Region.binds .any e with
  | false => rfl
  | true => simpa using this hb

theorem closed_ready {ops : Array Oper} {listed : Array Bool} (he : edgesOk ops.toList 0 = true) (hc : Closed ops.toList fun i => listed.getD i false = true) {i : Nat} (h : i ∈ Region.ready .any ops listed) :
    ∀ j, (((masks ops.toList)[i]?).getD 0).testBit j = true → listed.getD j false = true := by
  obtain ⟨h1, _, h3⟩ := ready_spec h
  have ho : ops.toList[i]? = some ops[i] := by simp [h1]
  intro j hj
  obtain ⟨e, hm, hb, hj⟩ := mask_bit ho (fun e hm hb => by have := edgesOk_spec he ho e hm hb; omega) hj
  have hl := h3 ops[i] (by simp [h1]) e hm hb
  rcases hj with rfl | hj
  · exact hl
  · exact hc _ hl _ hj

variable {rd : Option Nat}

/-- one operation, as the model asks for it -/
theorem wpOp_of (hG : Agree P Γ) {ops : Array Oper} (hok : okOps n ops.toList = true) {Q : Exit → Act → World → Prop} {K : Act → World → Prop} {i : Nat} {o : Oper} (ho : ops[i]? = some o) {e : Env} {w : World}
    {run : Value → World → Prop} {skip : Prop} (hsel : isSel o.op = false) (h : grd ops.toList e o (Does P (ev e) o w run) skip) (h1 : ∀ v w', run v w' → K (ag n ds (putE e o.dst v)) w') (h2 : skip → K (ag n ds (putE e o.dst undef)) w) :
    wpOpIn (fen rd) 0 P ops Q i K (ag n ds e) w := by
  have hm : o ∈ ops.toList := by simpa using Array.mem_of_getElem? ho
  obtain ⟨hk, hj⟩ := okOps_guard hok hm
  unfold wpOpIn
  simp only [ho]
  have hops : ops.toList.toArray = ops := by simp
  rcases grd_spec (n := n) (ds := ds) h hj with ⟨hw, hr⟩ | ⟨hw, hr⟩
  · rw [hops] at hw
    rw [if_pos hw]
    refine (hr.toAg (ds := ds) hk hsel).upon (okO_def hk) ?_
    intro v w' hv
    rw [ag_put _ _ _ _ (okO_dst hk)]
    exact h1 v w' hv
  · rw [hops] at hw
    rw [if_neg (by simp [hw]), ag_put _ _ _ _ (okO_dst hk)]
    exact ⟨fun _ _ => trivial, h2 hr⟩

theorem sel_of {ops : Array Oper} (hok : okOps n ops.toList = true) {i : Nat} {o : Oper} (ho : ops[i]? = some o) : isSel o.op = false := by
  have hm : o ∈ ops.toList := by simpa using Array.mem_of_getElem? ho
  have := (okOps_guard hok hm).1
  simp only [okO, Bool.and_eq_true, Bool.not_eq_true'] at this
  exact this.1.1.2

theorem phaseB (hG : Agree P Γ) {ops : Array Oper} (hok : okOps n ops.toList = true) (he : edgesOk ops.toList 0 = true) {m : Nat} (ht : tailOk (masks ops.toList) m (ops.toList.length - m) = true) {K : Exit → Env → World → Prop} :
    ∀ (k t : Nat) (listed : Array Bool) (E : Env) (W : World), t + k = ops.size → m ≤ t → listed.size = ops.size → (∀ i, i < ops.size → listed.getD i true = decide (i < t)) →
      VCl P Γ ops.toList (K .normal) (ops.toList.drop t) E W → wpAnyIn (fen rd) 0 P .any ops (lift n ds K) k listed (ag n ds E) W := by
  intro k
  induction k with
  | zero =>
    intro t listed E W htk hmt hsz hl h
    have hn : ops.toList.drop t = [] := List.drop_eq_nil_of_le (by simp; omega)
    rw [hn] at h
    refine ⟨?_, ⟨E, rfl, h⟩⟩
    refine List.eq_nil_iff_forall_not_mem.2 fun i hi => ?_
    obtain ⟨h1, h2, _⟩ := ready_spec hi
    rw [hl i h1] at h2
    simp at h2
    omega
  | succ k ih =>
    intro t listed E W htk hmt hsz hl h
    have htl : t < ops.size := by omega
    have hd : ops.toList.drop t = ops[t] :: ops.toList.drop (t + 1) := by
      rw [List.drop_eq_getElem_cons (by simpa using htl)]; simp
    have ho : ops[t]? = some ops[t] := Array.getElem?_eq_getElem htl
    have hoL : ops.toList[t]? = some ops[t] := by simp [htl]
    have hf : ∀ j, j < ops.size → listed.getD j false = decide (j < t) := fun j hj => by
      have := hl j hj
      rw [Array.getD_eq_getD_getElem?, Array.getElem?_eq_getElem (by omega)] at this ⊢
      exact this
    have hready : t ∈ Region.ready .any ops listed := mem_ready htl (by rw [hl t htl]; simp) fun o ho' e hm hb => by
      rw [ho] at ho'
      cases ho'
      have := edgesOk_spec he hoL e hm hb
      rw [hf e.on (by omega)]
      simp; omega
    have hc : Closed ops.toList fun i => listed.getD i false = true := by
      intro i hi j hj
      have hil : i < ops.size := by
        rcases Nat.lt_or_ge i ops.size with h' | h'
        · exact h'
        · rw [Array.getD_eq_getD_getElem?, Array.getElem?_eq_none (by omega)] at hi
          cases hi
      have := mask_lt he i (by simpa using hil) j hj
      rw [hf i hil] at hi
      rw [hf j (by omega)]
      simp at hi ⊢
      omega
    refine ⟨fun hn => by rw [hn] at hready; simp at hready, fun i hi => ?_⟩
    have hit : i = t := by
      obtain ⟨h1, h2, _⟩ := ready_spec hi
      rw [hl i h1] at h2
      have hge : t ≤ i := by simpa using h2
      rcases Nat.eq_or_lt_of_le hge with h' | h'
      · exact h'.symm
      · have := closed_ready he hc hi t (tailOk_spec ht i (by omega) (by simp; omega) t h')
        rw [hf t htl] at this
        simp at this
    subst hit
    rw [hd, VCl_cons] at h
    have hsel : isSel (ops[i]).op = false := sel_of hok ho
    refine wpOp_of hG hok ho hsel (grd_mono h (fun h => op1_does hG h) id) ?_ ?_
    · intro v w' hv
      exact ih (i + 1) _ _ _ (by omega) (by omega) (by simpa using hsz) (fun j hj => by
        rw [Array.getD_eq_getD_getElem?, Array.getElem?_setIfInBounds]
        have := hl j hj
        rw [Array.getD_eq_getD_getElem?] at this
        split
        · rename_i h'; subst h'; simp [htl, hsz]
        · rw [this]; simp; omega) hv
    · intro hv
      exact ih (i + 1) _ _ _ (by omega) (by omega) (by simpa using hsz) (fun j hj => by
        rw [Array.getD_eq_getD_getElem?, Array.getElem?_setIfInBounds]
        have := hl j hj
        rw [Array.getD_eq_getD_getElem?] at this
        split
        · rename_i h'; subst h'; simp [htl, hsz]
        · rw [this]; simp; omega) hv

theorem okOrd_pair {ops : List Oper} {ms : List Nat} {full : List (Nat × Oper)} : ∀ {r seen : List (Nat × Oper)}, okOrd ops ms full r seen = true → r.Pairwise fun a b => a.1 ≠ b.1 ∧ ∀ s, a.2.dst = some s → b.2.dst ≠ some s
  | [], _, _ => List.Pairwise.nil
  | (i, o) :: r, seen, h => by
    have h2 := h
    simp only [okOrd, Bool.and_eq_true] at h
    refine List.pairwise_cons.2 ⟨fun b hb => ?_, okOrd_pair h.2⟩
    obtain ⟨A, B, rfl⟩ := List.append_of_mem hb
    obtain ⟨j, p⟩ := b
    have := (okOrd_spec h2 (A := (i, o) :: A) (B := B) rfl).1 (i, o) (by simp)
    exact this

/-- a new block, whatever else -/
def isAl (Γ : List (Nat × TI)) (o : Oper) : Prop := o.guard = none ∧ ∃ t ti, o.op = .alloc t ∧ look Γ t = some ti
def Mono (S : World → World → Prop) : Prop := ∀ a b : World, S a b → a.heap.size ≤ b.heap.size
/-- new blocks are apart -/
def Dist (Γ : List (Nat × TI)) (ops : List Oper) (ord : List Nat) (E : Env) : Prop := (nodes ops ord).Pairwise fun a b => isAl Γ a.2 → isAl Γ b.2 → ∀ s t, a.2.dst = some s → b.2.dst = some t → E s ≠ E t
theorem alloc_runs (hG : Agree P Γ) {ρ : Operand → Value} {o : Oper} {w w' : World} {v : Value} (h : isAl Γ o) (hr : RunsTo P ρ o w v w') : v = .pointer (some ⟨w.heap.size, 0, none⟩) ∧ w.heap.size < w'.heap.size := by
  obtain ⟨-, t, ti, ho, hl⟩ := h
  have h1 : (execOp ρ o).run P w = .ok (.value (.pointer (some ⟨w.heap.size, 0, none⟩))) (w.alloc (.cells (cellsL ti.zero).toArray t)) := by
    unfold execOp
    rw [ho]
    simp only [Sem.run_bind, run_allocT (hG.look hl) w, Result.andThen_ok]
    rfl
  obtain ⟨h2, h3⟩ := RunsTo.one (.inl h1) hr
  subst h2 h3
  exact ⟨rfl, by simp⟩
/-- where the walk through a drawn region stands -/
structure At (P : Program) (Γ : List (Nat × TI)) (S : World → World → Prop) (U : World → Prop) (x0 : Nat) (w0 : World) (ops : Array Oper) (m : Nat) (ord : List Nat) (Q : Env → List (Nat × DP) → Prop) (e0 : Env)
    (nds : List Nd) (listed : Array Bool) (W : World) : Prop where
  nd : nds.map (fun n => (n.1, n.2.1)) = nodes ops.toList ord
  vc : VCs P Γ S U x0 w0 ops.toList (masks ops.toList) Q nds [] e0
  chg : S w0 W
  done : ∀ n ∈ nds, (n.2.2.isSome = true ↔ listed.getD n.1 false = true)
  held : ∀ n ∈ nds, ∀ v D, n.2.2 = some (v, some D) → D W ∧ ∀ W W', D W → S W W' → D W'
  size : listed.size = ops.size
  tail : ∀ i, m ≤ i → listed.getD i false = false
  closed : Closed ops.toList fun i => listed.getD i false = true
  unx : listed.getD x0 false = false → U W
  al : Mono S → ∀ n ∈ nds, isAl Γ n.2.1 → ∀ v od, n.2.2 = some (v, od) → ∃ b, v = .pointer (some ⟨b, 0, none⟩) ∧ b < W.heap.size
  apart : Mono S → nds.Pairwise fun a b => isAl Γ a.2.1 → isAl Γ b.2.1 → ∀ va oa vb ob, a.2.2 = some (va, oa) → b.2.2 = some (vb, ob) → va ≠ vb

theorem At.next {ops : Array Oper} {m : Nat} {ord : List Nat} {Q : Env → List (Nat × DP) → Prop} {e0 : Env} {A B : List Nd} {i : Nat} {o : Oper} {listed : Array Bool} {W W' : World} {S : World → World → Prop} {U : World → Prop} {x0 : Nat} {w0 : World}
    (hS : Pre S) (h : At P Γ S U x0 w0 ops m ord Q e0 (A ++ (i, o, none) :: B) listed W) {v : Value} {od : Option DP} (hi : i < m) (hio : i < ops.size) (hc : S W W') (hux : Nat.beq i x0 = false → U W → U W')
    (hu : ∀ n ∈ A ++ B, n.1 ≠ i) (hr : ∀ j, (((masks ops.toList)[i]?).getD 0).testBit j = true → listed.getD j false = true)
    (hv : VCs P Γ S U x0 w0 ops.toList (masks ops.toList) Q (A ++ (i, o, some (v, od)) :: B) [] e0) (hd : ∀ D, od = some D → D W' ∧ ∀ W W', D W → S W W' → D W')
    (hal : isAl Γ o → v = .pointer (some ⟨W.heap.size, 0, none⟩) ∧ W.heap.size < W'.heap.size) :
    At P Γ S U x0 w0 ops m ord Q e0 (A ++ (i, o, some (v, od)) :: B) (listed.setIfInBounds i true) W' := by
  have hl : ∀ j, (listed.setIfInBounds i true).getD j false = if j = i then true else listed.getD j false := by
    intro j
    rw [Array.getD_eq_getD_getElem?, Array.getElem?_setIfInBounds, Array.getD_eq_getD_getElem?]
    by_cases hj : j = i
    · subst hj; simp [h.size, hio]
    · rw [if_neg (Ne.symm hj), if_neg hj]
  refine ⟨?_, hv, hS.trans h.chg hc, ?_, ?_, by simpa using h.size, ?_, ?_, ?_, ?_, ?_⟩
  · have := h.nd; simpa using this
  · intro n hn
    rw [hl]
    rcases List.mem_append.1 hn with hn | hn
    · rw [if_neg (hu n (List.mem_append_left _ hn))]
      exact h.done n (List.mem_append_left _ hn)
    · rcases List.mem_cons.1 hn with rfl | hn
      · simp
      · rw [if_neg (hu n (List.mem_append_right _ hn))]
        exact h.done n (List.mem_append_right _ (List.mem_cons_of_mem _ hn))
  · intro n hn v' D hD
    rcases List.mem_append.1 hn with hn | hn
    · obtain ⟨h1, h2⟩ := h.held n (List.mem_append_left _ hn) v' D hD
      exact ⟨h2 _ _ h1 hc, h2⟩
    · rcases List.mem_cons.1 hn with rfl | hn
      · simp only [Option.some.injEq, Prod.mk.injEq] at hD
        exact hd D hD.2
      · obtain ⟨h1, h2⟩ := h.held n (List.mem_append_right _ (List.mem_cons_of_mem _ hn)) v' D hD
        exact ⟨h2 _ _ h1 hc, h2⟩
  · intro j hj
    rw [hl, if_neg (by omega)]
    exact h.tail j hj
  · intro j hj k hk
    rw [hl] at hj ⊢
    by_cases hki : k = i
    · rw [if_pos hki]
    · rw [if_neg hki]
      by_cases hji : j = i
      · subst hji; exact hr k hk
      · rw [if_neg hji] at hj; exact h.closed j hj k hk
  · intro hx
    rw [hl] at hx
    split at hx
    · cases hx
    · rename_i hne
      exact hux (beqf (Ne.symm hne)) (h.unx hx)
  · intro hM n hn ha v' od' hD
    have hsz := hM _ _ hc
    have old : ∀ n ∈ A ++ (i, o, none) :: B, isAl Γ n.2.1 → ∀ v od, n.2.2 = some (v, od) → ∃ b, v = .pointer (some ⟨b, 0, none⟩) ∧ b < W'.heap.size := fun n hn ha v od hD => by
      obtain ⟨b, h1, h2⟩ := h.al hM n hn ha v od hD
      exact ⟨b, h1, by omega⟩
    rcases List.mem_append.1 hn with hn | hn
    · exact old n (List.mem_append_left _ hn) ha v' od' hD
    · rcases List.mem_cons.1 hn with rfl | hn
      · simp only [Option.some.injEq, Prod.mk.injEq] at hD
        obtain ⟨h1, h2⟩ := hal ha
        exact ⟨_, hD.1 ▸ h1, h2⟩
      · exact old n (List.mem_append_right _ (List.mem_cons_of_mem _ hn)) ha v' od' hD
  · intro hM
    have hold := h.apart hM
    have hnew : ∀ n ∈ A ++ B, isAl Γ n.2.1 → isAl Γ o → ∀ va oa, n.2.2 = some (va, oa) → va ≠ v := fun n hn ha ho va oa hD he => by
      have hn' : n ∈ A ++ (i, o, none) :: B := by
        rcases List.mem_append.1 hn with hn | hn
        · exact List.mem_append_left _ hn
        · exact List.mem_append_right _ (List.mem_cons_of_mem _ hn)
      obtain ⟨b, h1, h2⟩ := h.al hM n hn' ha va oa hD
      obtain ⟨h3, -⟩ := hal ho
      rw [he, h3] at h1
      have h4 : W.heap.size = b := by injection h1 with h1; injection h1 with h1; injection h1
      omega
    rw [List.pairwise_append, List.pairwise_cons] at hold ⊢
    refine ⟨hold.1, ⟨fun b hb ha hb2 va oa vb ob e1 e2 => ?_, hold.2.1.2⟩, fun a ha b hb => ?_⟩
    · simp only [Option.some.injEq, Prod.mk.injEq] at e1
      exact fun he => hnew b (List.mem_append_right _ hb) hb2 ha vb ob e2 (by rw [← he]; exact e1.1.symm)
    · rcases List.mem_cons.1 hb with rfl | hb
      · intro h1 h2 va oa vb ob e1 e2
        simp only [Option.some.injEq, Prod.mk.injEq] at e2
        rw [← e2.1]
        exact hnew a (List.mem_append_left _ ha) h1 h2 va oa e1
      · exact hold.2.2 a ha b (List.mem_cons_of_mem _ hb)

theorem slotd_mem {s : Nat} {v : Value} {od : Option DP} : ∀ {A : List Nd} {e : Env}, Once A → ∀ n ∈ A, n.2.1.dst = some s → n.2.2 = some (v, od) → slotd A e s = v
  | [], _, _, n, hn, _, _ => by simp at hn
  | (i, o, d) :: r, e, ho, n, hn, hs, hd => by
    rcases List.mem_cons.1 hn with rfl | hn2
    · simp only at hs hd
      subst hd
      simp only [slotd]
      rw [if_pos hs]
    · have ho' := List.pairwise_cons.1 ho
      have hne : o.dst ≠ some s := fun he => ho'.1 n hn2 s he hs
      cases d with
      | none => simp only [slotd]; exact slotd_mem ho'.2 n hn2 hs hd
      | some p =>
        obtain ⟨v', D'⟩ := p
        simp only [slotd]
        rw [if_neg hne]
        exact slotd_mem ho'.2 n hn2 hs hd

theorem Once_of {ops : List Oper} {ms : List Nat} {full : List (Nat × Oper)} {r : List (Nat × Oper)} (h : okOrd ops ms full r [] = true) {nds : List Nd} (hn : nds.map (fun n => (n.1, n.2.1)) = r) : Once nds := by
  subst hn
  have := okOrd_pair h
  rw [List.pairwise_map] at this
  exact this.imp fun h s hs => h.2 s hs

theorem cnt_set {listed : Array Bool} {i : Nat} (hi : i < listed.size) (h : listed.getD i true = false) : (listed.setIfInBounds i true).toList.count false + 1 = listed.toList.count false := by
  rw [Array.getD_eq_getD_getElem?, Array.getElem?_eq_getElem hi] at h
  simp only [Option.getD_some] at h
  rw [Array.toList_setIfInBounds, List.count_set (by simpa using hi)]
  have hp : 0 < listed.toList.count false := List.count_pos_iff.2 (by rw [← h]; simp)
  have h' : listed.toList[i]'(by simpa using hi) = false := by simpa using h
  rw [h']
  simp only [beq_self_eq_true, if_true, show (true == false) = false from rfl, Bool.false_eq_true, if_false]
  omega

theorem ready_ne {ops : Array Oper} {listed : Array Bool} (he : edgesOk ops.toList 0 = true) (hs : listed.size = ops.size) (hc : 0 < listed.toList.count false) : Region.ready .any ops listed ≠ [] := by
  have hm : false ∈ listed.toList := List.count_pos_iff.1 hc
  obtain ⟨i0, hi0, h0⟩ := List.getElem_of_mem hm
  have hex : ∀ i, i < ops.size → listed.getD i true = false → ∃ t, t ∈ Region.ready .any ops listed := by
    intro i
    induction i using Nat.strongRecOn with
    | _ i ih =>
      intro hi h
      by_cases hall : ∀ o, ops[i]? = some o → ∀ e ∈ o.after.toList, Region.binds .any e = true → listed.getD e.on false = true
      · exact ⟨i, mem_ready hi h hall⟩
      · have ho : ops.toList[i]? = some ops[i] := by simp [hi]
        simp only [Array.getElem?_eq_getElem hi, Option.some.injEq] at hall
        obtain ⟨o, hall⟩ := Classical.not_forall.1 hall
        obtain ⟨rfl, hall⟩ := Classical.not_imp.1 hall
        obtain ⟨e, hall⟩ := Classical.not_forall.1 hall
        obtain ⟨hm, hall⟩ := Classical.not_imp.1 hall
        obtain ⟨hb, hall⟩ := Classical.not_imp.1 hall
        have hlt := edgesOk_spec he ho e hm hb
        refine ih e.on (by omega) (by omega) ?_
        rw [Array.getD_eq_getD_getElem?, Array.getElem?_eq_getElem (by omega)] at hall ⊢
        simpa using hall
  obtain ⟨t, ht⟩ := hex i0 (by rw [← hs]; simpa using hi0) (by
    rw [Array.getD_eq_getD_getElem?, Array.getElem?_eq_getElem (by simpa using hi0)]
    simpa using h0)
  intro hn
  rw [hn] at ht
  simp at ht

theorem phaseA (hG : Agree P Γ) {S : World → World → Prop} {U : World → Prop} {x0 : Nat} {w0 : World} (hS : Pre S) {ops : Array Oper} (hok : okOps n ops.toList = true) {m : Nat} {ord : List Nat} (hreg : regOk ops.toList m ord = true) {K : Exit → Env → World → Prop}
    {Q : Env → List (Nat × DP) → Prop} (hQ : ∀ E Ds, Q E Ds → ∀ W, S w0 W → (∀ j, getDs Ds j W) → (Mono S → Dist Γ ops.toList ord E) → VCl P Γ ops.toList (K .normal) (ops.toList.drop m) E W) {e0 : Env} :
    ∀ (k : Nat) (nds : List Nd) (listed : Array Bool) (W : World), At P Γ S U x0 w0 ops m ord Q e0 nds listed W → listed.toList.count false = k →
      wpAnyIn (fen rd) 0 P .any ops (lift n ds K) k listed (ag n ds (slotd nds e0)) W := by
  simp only [regOk, Bool.and_eq_true] at hreg
  obtain ⟨⟨⟨⟨⟨⟨hm, hlen⟩, hlt⟩, hall⟩, he⟩, ht⟩, hord⟩ := hreg
  have hm : m ≤ ops.size := by simpa [Nat.ble_eq] using hm
  have hlt : ∀ i ∈ ord, i < m := by simpa [Nat.blt_eq] using hlt
  have hall : ∀ i, i < m → i ∈ ord := by simpa using hall
  -- all is done: where it stands
  have fin : ∀ (nds : List Nd) (listed : Array Bool) (W : World), At P Γ S U x0 w0 ops m ord Q e0 nds listed W → (∀ j, j < m → listed.getD j false = true) →
      VCl P Γ ops.toList (K .normal) (ops.toList.drop m) (slotd nds e0) W := by
    intro nds listed W h hd
    obtain ⟨E, Es, hq, hE, hD⟩ := all_done nds [] e0 h.vc (Once_of hord h.nd) (fun n hn => (h.done n hn).2 (hd n.1 (by
      have : (n.1, n.2.1) ∈ nodes ops.toList ord := by rw [← h.nd]; exact List.mem_map.2 ⟨n, hn, rfl⟩
      unfold nodes at this
      obtain ⟨i, hi, heq⟩ := List.mem_map.1 this
      simp only [Prod.mk.injEq] at heq
      rw [← heq.1]
      exact hlt i hi))) (fun j => trivial) (fun n hn v D hv => (h.held n hn v D hv).1)
    have : E = slotd nds e0 := funext hE
    subst this
    refine hQ _ _ hq W h.chg hD fun hM => ?_
    have hon := Once_of hord h.nd
    unfold Dist
    rw [← h.nd, List.pairwise_map]
    refine List.Pairwise.imp_of_mem (fun {a b} ha hb hp h1 h2 s t e1 e2 => ?_) (h.apart hM)
    have hdn : ∀ n ∈ nds, ∃ v od, n.2.2 = some (v, od) := fun n hn => by
      have := (h.done n hn).2 (hd n.1 (by
        have : (n.1, n.2.1) ∈ nodes ops.toList ord := by rw [← h.nd]; exact List.mem_map.2 ⟨n, hn, rfl⟩
        unfold nodes at this
        obtain ⟨i, hi, heq⟩ := List.mem_map.1 this
        simp only [Prod.mk.injEq] at heq
        rw [← heq.1]
        exact hlt i hi))
      cases hx : n.2.2 with
      | none => rw [hx] at this; cases this
      | some p => exact ⟨p.1, p.2, rfl⟩
    obtain ⟨va, oa, ha'⟩ := hdn a ha
    obtain ⟨vb, ob, hb'⟩ := hdn b hb
    rw [slotd_mem hon a ha e1 ha', slotd_mem hon b hb e2 hb']
    exact hp h1 h2 va oa vb ob ha' hb'
  intro k
  induction k with
  | zero =>
    intro nds listed W h hk
    have hno : ∀ j, j < ops.size → listed.getD j false = true := by
      intro j hj
      rw [List.count_eq_zero] at hk
      rw [Array.getD_eq_getD_getElem?, Array.getElem?_eq_getElem (by rw [h.size]; exact hj)]
      simp only [Option.getD_some]
      cases hb : listed[j]'(by rw [h.size]; exact hj) with
      | true => rfl
      | false => exact (hk (by rw [← hb]; simp)).elim
    have hmz : m = ops.size := by
      rcases Nat.lt_or_ge m ops.size with hl | hl
      · have := hno m hl
        rw [h.tail m (Nat.le_refl _)] at this
        cases this
      · omega
    refine ⟨List.eq_nil_iff_forall_not_mem.2 fun i hi => ?_, _, rfl, ?_⟩
    · obtain ⟨h1, h2, _⟩ := ready_spec hi
      have := hno i h1
      rw [Array.getD_eq_getD_getElem?, Array.getElem?_eq_getElem (by rw [h.size]; exact h1)] at this h2
      simp only [Option.getD_some] at this h2
      rw [h2] at this
      cases this
    · have := fin nds listed W h fun j hj => hno j (by omega)
      rw [List.drop_eq_nil_of_le (by simp; omega)] at this
      exact this
  | succ k ih =>
    intro nds listed W h hk
    refine ⟨fun hn => absurd hn (ready_ne he h.size (by omega)), fun i hi => ?_⟩
    obtain ⟨h1, h2, _⟩ := ready_spec hi
    have hcl := closed_ready he h.closed hi
    have hsz : i < listed.size := by rw [h.size]; exact h1
    have h2f : listed.getD i false = false := by
      rw [Array.getD_eq_getD_getElem?, Array.getElem?_eq_getElem hsz] at h2 ⊢
      exact h2
    have hcnt : (listed.setIfInBounds i true).toList.count false = k := by have := cnt_set hsz h2; omega
    have ho : ops[i]? = some ops[i] := Array.getElem?_eq_getElem h1
    have hux : pxOf (masks ops.toList) x0 i = true → U W := fun hp => h.unx (by
      unfold pxOf at hp
      rw [Bool.or_eq_true] at hp
      rcases hp with hp | hp
      · rw [← Nat.eq_of_beq_eq_true hp]; exact h2f
      · cases hb : listed.getD x0 false with
        | false => rfl
        | true => have := h.closed x0 hb i hp; exact absurd (h2f.symm.trans this) (by simp))
    by_cases him : i < m
    · -- among those in any order
      have hio : (i, ops[i]) ∈ nodes ops.toList ord := List.mem_map.2 ⟨i, hall i him, by simp [ho]⟩
      rw [← h.nd] at hio
      obtain ⟨nd, hnd, heq⟩ := List.mem_map.1 hio
      obtain ⟨i', o', d⟩ := nd
      simp only [Prod.mk.injEq] at heq
      obtain ⟨rfl, rfl⟩ := heq
      have hd : d = none := by
        cases d with
        | none => rfl
        | some d => have := (h.done _ hnd).1 rfl; simp only at this; rw [h2f] at this; cases this
      subst hd
      obtain ⟨A, B, rfl⟩ := List.append_of_mem hnd
      have hnd' := h.nd
      rw [List.map_append, List.map_cons] at hnd'
      obtain ⟨s1, s2, s3, s4⟩ := okOrd_spec hord hnd'.symm
      simp only [List.nil_append] at s1 s2 s3
      have honce := Once_of hord h.nd
      have hpair : (A ++ (i', ops[i'], none) :: B).Pairwise fun a b => a.1 ≠ b.1 := by
        have := okOrd_pair hord
        rw [← h.nd, List.pairwise_map] at this
        exact this.imp fun h => h.1
      have hu : ∀ n ∈ A ++ B, n.1 ≠ i' := by
        rw [List.pairwise_append, List.pairwise_cons] at hpair
        intro n hn
        rcases List.mem_append.1 hn with hn | hn
        · exact hpair.2.2 n hn _ List.mem_cons_self
        · exact Ne.symm (hpair.2.1.1 n hn)
      have hdone : ∀ n ∈ A, (((masks ops.toList)[i']?).getD 0).testBit n.1 = true → n.2.2.isSome = true := fun n hn hb =>
        (h.done n (List.mem_append_left _ hn)).2 (hcl _ hb)
      have hfull : ∀ n ∈ A ++ (i', ops[i'], none) :: B, (n.1, n.2.1) ∈ nodes ops.toList ord := fun n hn => by
        rw [← h.nd]; exact List.mem_map.2 ⟨n, hn, rfl⟩
      have hagr : Agr ops.toList A e0 (slotd (A ++ (i', ops[i'], none) :: B) e0) ops[i'] := by
        intro s hs
        rw [slotd_append A _ fun n hn hns => ?_]
        · exact slotv_slotd A fun n hn hns => hdone n hn (s2 s hs _ (hfull n (List.mem_append_left _ hn)) hns).1
        · obtain ⟨_, q, hq, hqe⟩ := s2 s hs _ (hfull n (List.mem_append_right _ hn)) hns
          obtain ⟨q', hq', rfl⟩ := List.mem_map.1 hq
          rw [List.pairwise_append] at hpair
          exact hpair.2.2 q' hq' n hn hqe
      have next : ∀ {v od W'}, S W W' → (Nat.beq i' x0 = false → U W → U W') → VCs P Γ S U x0 w0 ops.toList (masks ops.toList) Q (A ++ (i', ops[i'], some (v, od)) :: B) [] e0 → (∀ D, od = some D → D W' ∧ ∀ W W', D W → S W W' → D W') → (isAl Γ ops[i'] → v = .pointer (some ⟨W.heap.size, 0, none⟩) ∧ W.heap.size < W'.heap.size) →
          wpAnyIn (fen rd) 0 P .any ops (lift n ds K) k (listed.setIfInBounds i' true) (ag n ds (putE (slotd (A ++ (i', ops[i'], none) :: B) e0) (ops[i']).dst v)) W' := by
        intro v od W' hc hx hv hD hA
        have := ih _ _ W' (At.next hS h him h1 hc hx hu hcl hv hD hA) hcnt
        have heq : slotd (A ++ (i', ops[i'], some (v, od)) :: B) e0 = putE (slotd (A ++ (i', ops[i'], none) :: B) e0) (ops[i']).dst v := funext fun s => slotd_done A honce
        rw [heq] at this
        exact this
      have sem : isPure (ops[i']).op = true ∨ loudSem (ops[i']).op = true → wpOpIn (fen rd) 0 P ops (lift n ds K) i' (wpAnyIn (fen rd) 0 P .any ops (lift n ds K) k (listed.setIfInBounds i' true)) (ag n ds (slotd (A ++ (i', ops[i'], none) :: B) e0)) W := by
        intro hs
        obtain ⟨v, od, W', hr, hx, hv⟩ := exec_sem hG hS (ρ := slotd (A ++ (i', ops[i'], none) :: B) e0) hs s4 h.chg hux A [] e0 (List.pairwise_append.1 honce).1 h.vc hagr (fun j _ => trivial) (fun n hn => by
          have h5 := h.held n (List.mem_append_left _ hn)
          have h6 := hdone n hn
          split
          · rename_i v' D hD; exact (h5 _ _ hD).1
          · trivial
          · rename_i hD
            rw [hD] at h6
            cases hb : (((masks ops.toList)[i']?).getD 0).testBit n.1 with
            | false => rfl
            | true => have := h6 hb; cases this)
        rcases hr with ⟨g1, g2, g3, g4⟩ | ⟨g1, g2, g3, g4⟩
        · refine wpOp_of (P := P) (run := fun v' W'' => v' = v ∧ W'' = W') hG hok ho s4 (grd_mono g1 (fun _ => g2.does ⟨rfl, rfl⟩) fun h => h) ?_ (fun h => h.elim)
          rintro _ _ ⟨rfl, rfl⟩
          refine next g3 hx hv ?_ fun hA => alloc_runs hG hA g2
          intro D hD
          rw [g4] at hD
          split at hD
          · cases hD
          · simp only [Option.some.injEq] at hD
            subst hD
            exact ⟨hS.refl _, fun W W' h k => hS.trans h k⟩
        · subst g2 g3 g4
          have hng : ¬ isAl Γ ops[i'] := fun hA => by
            unfold grd at g1
            rw [hA.1] at g1
            exact g1
          exact wpOp_of (P := P) (run := fun _ _ => False) hG hok ho s4 (grd_mono g1 (fun h => h.elim) id) (fun _ _ h => h.elim) fun _ => next (hS.refl _) (fun _ h => h) hv (fun D hD => by cases hD) fun hA => absurd hA hng
      rcases s3 with hp | hp | hcall
      · exact sem (.inl hp)
      · exact sem (.inr hp)
      · cases hpu : isPure (ops[i']).op with
        | true => exact sem (.inl hpu)
        | false =>
          cases hlo : loudSem (ops[i']).op with
          | true => exact sem (.inr hlo)
          | false =>
          have hng : ¬ isAl Γ ops[i'] := fun hA => by
            obtain ⟨-, t, ti, h1, -⟩ := hA
            rw [h1] at hlo
            cases hlo
          rcases exec_call hG hS (ρ := slotd (A ++ (i', ops[i'], none) :: B) e0) hpu s4 h.chg hux A [] e0 (List.pairwise_append.1 honce).1 h.vc hagr (fun j _ => trivial) (fun n hn => by
            have h5 := h.held n (List.mem_append_left _ hn)
            have h6 := hdone n hn (hcall (n.1, n.2.1) (List.mem_map.2 ⟨n, hn, rfl⟩))
            split
            · rename_i v' D hD; exact (h5 _ _ hD).1
            · trivial
            · rename_i hD; rw [hD] at h6; cases h6) with ⟨g1, g2⟩ | ⟨g1, hv⟩
          · refine wpOp_of (P := P) hG hok ho s4 (grd_mono g1 (fun _ => g2) fun h => h) ?_ (fun h => h.elim)
            rintro v W' ⟨⟨hc, hx⟩, D, hst, hDW, hv⟩
            exact next hc hx hv (fun D' hD' => by cases hD'; exact ⟨hDW, hst⟩) fun hA => absurd hA hng
          · exact wpOp_of (P := P) (run := fun _ _ => False) hG hok ho s4 (grd_mono g1 (fun h => h.elim) id) (fun _ _ h => h.elim) fun _ => next (hS.refl _) (fun _ h => h) hv (fun D hD => by cases hD) fun hA => absurd hA hng
    · -- the row behind them
      have hmi : m ≤ i := by omega
      have him : i = m := by
        rcases Nat.eq_or_lt_of_le hmi with h' | h'
        · exact h'.symm
        · have := hcl m (tailOk_spec ht i hmi (by simp; omega) m h')
          rw [h.tail m (Nat.le_refl _)] at this
          cases this
      subst him
      have hdone : ∀ j, j < i → listed.getD j false = true := fun j hj => hcl j (tailOk_spec ht i (Nat.le_refl _) (by simp; omega) j hj)
      have hfin := fin nds listed W h hdone
      have hcount : i + (k + 1) = ops.size := by
        have hL : listed.toList = List.replicate i true ++ List.replicate (ops.size - i) false := by
          apply List.ext_getElem?
          intro j
          rw [List.getElem?_append]
          simp only [List.length_replicate, List.getElem?_replicate]
          have hs := h.size
          by_cases hj : j < i
          · rw [if_pos hj, if_pos hj]
            have := hdone j hj
            rw [Array.getD_eq_getD_getElem?, Array.getElem?_eq_getElem (by omega)] at this
            rw [Array.getElem?_toList, Array.getElem?_eq_getElem (by omega)]
            simpa using this
          · rw [if_neg hj]
            by_cases hj2 : j < ops.size
            · rw [if_pos (by omega)]
              have := h.tail j (by omega)
              rw [Array.getD_eq_getD_getElem?, Array.getElem?_eq_getElem (by omega)] at this
              rw [Array.getElem?_toList, Array.getElem?_eq_getElem (by omega)]
              simpa using this
            · rw [if_neg (by omega), Array.getElem?_toList, Array.getElem?_eq_none (by omega)]
        rw [hL, List.count_append, List.count_replicate, List.count_replicate] at hk
        simp at hk
        omega
      have := phaseB (ds := ds) (rd := rd) hG hok he (m := i) ht (k + 1) i listed (slotd nds e0) W hcount (Nat.le_refl _) h.size (fun j hj => by
        rcases Nat.lt_or_ge j i with hji | hji
        · have := hdone j hji
          rw [Array.getD_eq_getD_getElem?, Array.getElem?_eq_getElem (by rw [h.size]; exact hj)] at this ⊢
          simpa [hji] using this
        · have := h.tail j hji
          rw [Array.getD_eq_getD_getElem?, Array.getElem?_eq_getElem (by rw [h.size]; exact hj)] at this ⊢
          simp at this ⊢
          rw [this]
          simp; omega) hfin
      exact this.2 i hi

/-- A REGION IN WHATEVER ORDER. -/
theorem drawnVg (hG : Agree P Γ) (hm : P.follows .mixedOrders = true) {id : Nat} {ops : Array Oper} (m : Nat) (ord : List Nat) (hreg : regOk ops.toList m ord = true) (S : World → World → Prop) (hS : Pre S) (U : World → Prop) (x0 : Nat) {K : Exit → Env → World → Prop} {e : Env} {w : World} (hU : U w.drew)
    {Q : Env → List (Nat × DP) → Prop} (hQ : ∀ E Ds, Q E Ds → ∀ W, S w W → (∀ j, getDs Ds j W) → (Mono S → Dist Γ ops.toList ord E) → VCl P Γ ops.toList (K .normal) (ops.toList.drop m) E W)
    (h : VCs P Γ S U x0 w ops.toList (masks ops.toList) Q ((nodes ops.toList ord).map fun p => (p.1, p.2, none)) [] e) :
    Piece P n ds rd (.region id ops true) K e w := by
  intro hok
  simp only [okC] at hok
  refine wpIn_region_any hm ?_
  have hno : ∀ n ∈ (nodes ops.toList ord).map (fun p => ((p.1, p.2, none) : Nd)), n.2.2 = none := by
    intro n hn
    obtain ⟨p, _, rfl⟩ := List.mem_map.1 hn
    rfl
  have hl : ∀ i, (Array.replicate ops.size false).getD i false = false := by
    intro i
    rw [Array.getD_eq_getD_getElem?, Array.getElem?_replicate]
    split <;> rfl
  have hat : At P Γ S U x0 w ops m ord Q e ((nodes ops.toList ord).map fun p => (p.1, p.2, none)) (Array.replicate ops.size false) w.drew := by
    refine ⟨by rw [List.map_map]; exact List.map_id' _, h, hS.kp (Chg.refl _ w).drew, ?_, ?_, by simp, fun i _ => hl i, ?_, fun _ => hU, fun _ n hn _ v od hv => (by rw [hno n hn] at hv; cases hv), fun _ => (List.pairwise_of_forall (R := fun _ _ => True) fun _ _ => trivial).imp_of_mem fun {a b} ha _ _ _ _ va oa vb ob e1 => by rw [hno a ha] at e1; cases e1⟩
    · intro n hn; rw [hno n hn, hl]; simp
    · intro n hn v D hv; rw [hno n hn] at hv; cases hv
    · intro i hi; rw [hl] at hi; cases hi
  have := phaseA (ds := ds) (rd := rd) hG hS hok hreg (K := K) hQ ops.size _ _ _ hat (by simp)
  have hs : slotd ((nodes ops.toList ord).map fun p => ((p.1, p.2, none) : Nd)) e = e := by
    have : ∀ (l : List Nd), (∀ n ∈ l, n.2.2 = none) → slotd l e = e := by
      intro l
      induction l with
      | nil => intro _; rfl
      | cons a l ih =>
        intro h
        obtain ⟨i, o, d⟩ := a
        have := h _ List.mem_cons_self
        simp only at this
        subst this
        funext s
        simp only [slotd]
        rw [ih fun n hn => h n (List.mem_cons_of_mem _ hn)]
    exact this _ hno
  rw [hs] at this
  exact this

theorem drawnV (hG : Agree P Γ) (hm : P.follows .mixedOrders = true) {id : Nat} {ops : Array Oper} (m : Nat) (ord : List Nat) (hreg : regOk ops.toList m ord = true) (S : World → World → Prop) (hS : Pre S) (U : World → Prop) (x0 : Nat) {K : Exit → Env → World → Prop} {e : Env} {w : World} (hU : U w.drew)
    (h : VCs P Γ S U x0 w ops.toList (masks ops.toList) (fun E Ds => ∀ W, S w W → (∀ j, getDs Ds j W) → VCl P Γ ops.toList (K .normal) (ops.toList.drop m) E W) ((nodes ops.toList ord).map fun p => (p.1, p.2, none)) [] e) :
    Piece P n ds rd (.region id ops true) K e w := drawnVg hG hm m ord hreg S hS U x0 hU (fun _ _ hq W h1 h2 _ => hq W h1 h2) h

theorem drawnS (hG : Agree P Γ) (hm : P.follows .mixedOrders = true) {id : Nat} {ops : Array Oper} (m : Nat) (ord : List Nat) (hreg : regOk ops.toList m ord = true) (S : World → World → Prop) (hS : Pre S) {K : Exit → Env → World → Prop} {e : Env} {w : World}
    (h : VCs P Γ S (fun _ => True) 0 w ops.toList (masks ops.toList) (fun E Ds => ∀ W, S w W → (∀ j, getDs Ds j W) → VCl P Γ ops.toList (K .normal) (ops.toList.drop m) E W) ((nodes ops.toList ord).map fun p => (p.1, p.2, none)) [] e) :
    Piece P n ds rd (.region id ops true) K e w := drawnV hG hm m ord hreg S hS (fun _ => True) 0 trivial h

/-- in the order in which they stand, up to the m-th -/
noncomputable def VCn (P : Program) (Γ : List (Nat × TI)) (S : World → World → Prop) (w0 : World) (ops : List Oper) (ms : List Nat) (m : Nat) (Q : Env → List (Nat × DP) → Prop) (l : List Oper) : Nat → List (Nat × DP) → Env → Prop :=
  List.rec (motive := fun _ => Nat → List (Nat × DP) → Env → Prop) (fun _ Ds e => Q e Ds)
    (fun o _ ih i Ds e => cond (Nat.beq i m) (Q e Ds) (grd ops e o (opr P Γ S w0 (DnF ((ms[i]?).getD 0) Ds) e o fun v D => ih (Nat.succ i) (addD Ds i D) (putE e o.dst v)) (ih (Nat.succ i) Ds (putE e o.dst undef)))) l

def nodesFrom (m : Nat) : List Oper → Nat → List (Nat × Oper)
  | [], _ => []
  | o :: r, i => cond (Nat.beq i m) [] ((i, o) :: nodesFrom m r (i + 1))

theorem nodesFrom_eq (ops : List Oper) (m : Nat) (hm : m ≤ ops.length) : ∀ (k i : Nat), i + k = m → nodesFrom m (ops.drop i) i = (List.range' i k).map fun i => (i, (ops[i]?).getD default)
  | 0, i, h => by
    have : i = m := by omega
    subst this
    cases ops.drop i with
    | nil => rfl
    | cons o r => simp only [nodesFrom, show Nat.beq i i = true from Nat.beq_refl i]; rfl
  | k + 1, i, h => by
    have hi : i < ops.length := by omega
    rw [List.drop_eq_getElem_cons hi]
    simp only [nodesFrom, beqf (show ¬ i = m by omega), cond_false, List.range'_succ, List.map_cons]
    rw [nodesFrom_eq ops m hm k (i + 1) (by omega)]
    simp [hi]

theorem VCn_to (hG : Agree P Γ) {S : World → World → Prop} {w0 : World} {ops : List Oper} {ms : List Nat} {m : Nat} {Q : Env → List (Nat × DP) → Prop} : ∀ (l : List Oper) (i : Nat) (Ds : List (Nat × DP)) (e : Env), VCn P Γ S w0 ops ms m Q l i Ds e → VCs P Γ S (fun _ => True) 0 w0 ops ms Q ((nodesFrom m l i).map fun p => (p.1, p.2, none)) Ds e
  | [], i, Ds, e, h => h
  | o :: r, i, Ds, e, h => by
    change cond (Nat.beq i m) (Q e Ds) (grd ops e o (opr P Γ S w0 (DnF ((ms[i]?).getD 0) Ds) e o fun v D => VCn P Γ S w0 ops ms m Q r (i + 1) (addD Ds i D) (putE e o.dst v)) (VCn P Γ S w0 ops ms m Q r (i + 1) Ds (putE e o.dst undef))) at h
    simp only [nodesFrom]
    cases hb : Nat.beq i m with
    | true => rw [hb] at h; exact h
    | false =>
      rw [hb] at h
      simp only [cond_false, List.map_cons] at h ⊢
      simp only [VCs]
      refine grd_mono h ?_ (fun h => VCn_to hG r _ _ _ h)
      intro h
      unfold opr at h
      split at h
      · rename_i hi
        rcases opP_spec (P := P) hG h with h | ⟨v, hk, hp⟩
        · exact h.elim
        · exact .inl ⟨hi, v, hp, VCn_to hG r _ _ _ hk⟩
      · rename_i hi
        exact .inr ⟨hi, (h.mono fun v D h => VCn_to hG r _ _ _ h).toU hG⟩

/-- A REGION IN WHATEVER ORDER, walked in the order in which it stands: the first m at will, the rest in a row. -/
theorem drawnR (hG : Agree P Γ) (hm : P.follows .mixedOrders = true) {id : Nat} {ops : Array Oper} (m : Nat) (hreg : regOk ops.toList m (List.range m) = true) (S : World → World → Prop) (hS : Pre S) {K : Exit → Env → World → Prop} {e : Env} {w : World}
    (h : VCn P Γ S w ops.toList (masks ops.toList) m (fun E Ds => ∀ W, S w W → (∀ j, getDs Ds j W) → VCl P Γ ops.toList (K .normal) (ops.toList.drop m) E W) ops.toList 0 [] e) :
    Piece P n ds rd (.region id ops true) K e w := by
  refine drawnS hG hm m (List.range m) hreg S hS ?_
  have hle : m ≤ ops.toList.length := by
    simp only [regOk, Bool.and_eq_true] at hreg
    exact Nat.le_of_ble_eq_true hreg.1.1.1.1.1.1
  have := VCn_to hG _ _ _ _ h
  rw [show nodesFrom m ops.toList 0 = nodesFrom m (ops.toList.drop 0) 0 from rfl, nodesFrom_eq ops.toList m hle m 0 (by omega), ← List.range_eq_range'] at this
  exact this

/-- the same, with a set of blocks that may turn -/
theorem drawn0 (hG : Agree P Γ) (hm : P.follows .mixedOrders = true) {id : Nat} {ops : Array Oper} (m : Nat) (hreg : regOk ops.toList m (List.range m) = true) (S : Nat → Prop) {K : Exit → Env → World → Prop} {e : Env} {w : World}
    (h : VCn P Γ (Chg S) w ops.toList (masks ops.toList) m (fun E Ds => ∀ W, Chg S w W → (∀ j, getDs Ds j W) → VCl P Γ ops.toList (K .normal) (ops.toList.drop m) E W) ops.toList 0 [] e) :
    Piece P n ds rd (.region id ops true) K e w := drawnR hG hm m hreg (Chg S) (preChg S) h

end
end Go.Au

namespace Go.Au
open Go Go.RowKit

abbrev pt (b o : Nat) : Value := .pointer (some ⟨b, o, none⟩)
/-- a block whose cells are known, all of them -/
abbrev Own (w : World) (b : Nat) (t : TypeId) (cs : List Value) : Prop := w.heap[b]? = some (.cells cs.toArray t (0, 0))

structure PutB (w : World) (b : Nat) (o : Obj) (w' : World) : Prop where
  here : w'.heap[b]? = some o
  other : ∀ k, k ≠ b → w'.heap[k]? = w.heap[k]?
  size : w'.heap.size = w.heap.size
  os : w'.os = w.os
  tape : w'.tape = w.tape
  drawn : w'.drawn = w.drawn
  output : w'.output = w.output

section
variable {P : Program} {Γ : List (Nat × TI)} {w w' : World} {S : Nat → Prop} {b b' o : Nat} {t : TypeId} {cs xs : List Value} {ob : Obj}

theorem lt_of_heap (h : w.heap[b]? = some ob) : b < w.heap.size := by
  rcases Nat.lt_or_ge b w.heap.size with h' | h'
  · exact h'
  · rw [Array.getElem?_eq_none h'] at h; cases h
theorem Own.lt (h : Own w b t cs) : b < w.heap.size := lt_of_heap h
theorem Chg.heap (h : Chg S w w') (hb : w.heap[b]? = some ob) (hs : ¬ S b) : w'.heap[b]? = some ob := (h.block b (lt_of_heap hb) hs).trans hb
theorem Chg.own (h : Chg S w w') (hb : Own w b t cs) (hs : ¬ S b) : Own w' b t cs := h.heap hb hs
theorem Chg.keep (h : Kp w w') (hb : Own w b t cs) : Own w' b t cs := h.heap hb id
theorem rangeAt_congr (h : w'.heap[b]? = w.heap[b]?) (hr : w.rangeAt b o cs) : w'.rangeAt b o cs := fun j v hv => by
  rw [World.cell?_of_block (a := ⟨b, o + j, none⟩) h]; exact hr j v hv
theorem Chg.range (h : Chg S w w') (hr : w.rangeAt b o cs) (hs : ¬ S b) : w'.rangeAt b o cs := by
  intro j v hv
  have hlt := World.block_lt_of_cell? w _ (hr j v hv)
  rw [World.cell?_of_block (a := ⟨b, o + j, none⟩) (h.block b hlt hs)]
  exact hr j v hv
theorem Own.at_ (h : Own w b t cs) (hx : (cs.drop o).take xs.length = xs) : w.rangeAt b o xs := by
  intro j v hv
  rw [cell_of_row w b (o + j) _ t _ h]
  have hj := (List.getElem?_eq_some_iff.1 hv).1
  rw [← hx, List.getElem?_take, if_pos hj, List.getElem?_drop] at hv
  simpa using hv
theorem rangeAt_sub {i : Nat} (h : w.rangeAt b o cs) (hx : (cs.drop i).take xs.length = xs) : w.rangeAt b (o + i) xs := by
  intro j v hv
  have hj := (List.getElem?_eq_some_iff.1 hv).1
  rw [← hx, List.getElem?_take, if_pos hj, List.getElem?_drop] at hv
  rw [Nat.add_assoc]
  exact h _ _ hv
theorem rangeAt_head {i : Nat} (h : w.rangeAt b o cs) {v : Value} (hx : cs[i]? = some v) : w.rangeAt b (o + i) [v] := by
  intro j u hu
  cases j with
  | zero =>
    simp at hu
    subst hu
    simpa using h _ _ hx
  | succ j => simp at hu

theorem NewB.chg (h : NewB w b ob w') (S : Nat → Prop) : Chg S w w' := by rw [h.eq]; exact Chg.alloc S w ob
theorem NewB.heap (h : NewB w b ob w') : w'.heap[b]? = some ob := by
  rw [h.eq, ← h.base]; show (w.heap.push ob)[w.heap.size]? = some ob; simp
theorem NewB.own {c : List Value} (h : NewB w b (.cells c.toArray t) w') : Own w' b t c := h.heap
theorem NewB.size (h : NewB w b ob w') : w'.heap.size = b + 1 := by rw [h.eq, ← h.base]; show (w.heap.push ob).size = _; simp
theorem NewB.ne (h : NewB w b ob w') {ob' : Obj} (hb : w.heap[b']? = some ob') : b' ≠ b := by
  have := lt_of_heap hb
  have := h.base
  omega

theorem PutB.chg (h : PutB w b ob w') : Chg (fun k => k = b) w w' := ⟨h.os, h.tape, Nat.le_of_eq h.drawn.symm, h.output, by rw [h.size]; exact Nat.le_refl _, fun k _ hn => h.other k hn⟩
theorem PutB.own {c : List Value} (h : PutB w b (.cells c.toArray t (0, 0)) w') : Own w' b t c := h.here

/-- a block that was made since is written -/
theorem Chg.new {w0 w1 w2 : World} {S : Nat → Prop} (h : Chg S w0 w1) (hb : w0.heap.size = b) (k : Chg (fun k => k = b) w1 w2) : Chg S w0 w2 :=
  ⟨k.os.trans h.os, k.tape.trans h.tape, Nat.le_trans h.drawn k.drawn, k.output.trans h.output, Nat.le_trans h.size k.size, fun i hi hs => (k.block i (Nat.lt_of_lt_of_le hi h.size) (by omega)).trans (h.block i hi hs)⟩
theorem Chg.newS {w0 w1 w2 : World} {S T : Nat → Prop} (h : Chg S w0 w1) (k : Chg T w1 w2) (hT : ∀ i, T i → w0.heap.size ≤ i) : Chg S w0 w2 :=
  ⟨k.os.trans h.os, k.tape.trans h.tape, Nat.le_trans h.drawn k.drawn, k.output.trans h.output, Nat.le_trans h.size k.size, fun i hi hs => (k.block i (Nat.lt_of_lt_of_le hi h.size) (fun ht => by have := hT i ht; omega)).trans (h.block i hi hs)⟩

/-! ### loads and stores -/
def asV (Γ : List (Nat × TI)) (t : TypeId) (cs : List Value) : Option Value := match look Γ t with
  | some ti => cond (isAggD ti.desc) (cond (Nat.beq cs.length ti.size) (some (.agg cs.toArray)) none) (match cs with | [v] => some v | _ => none)
  | none => none

theorem run_asV (hG : Agree P Γ) (hr : w.rangeAt b o cs) {v : Value} (hv : asV Γ t cs = some v) : (Instr.loadAt t (pt b o)).run P w = .ok v w := by
  unfold asV at hv
  split at hv
  · rename_i ti hl
    have hok := hG.look hl
    obtain ⟨i, hi, hz, hs, hb⟩ := hok.info
    cases ha : isAggD ti.desc with
    | true =>
      rw [ha] at hv
      simp only [cond_true] at hv
      cases hn : Nat.beq cs.length ti.size with
      | false => rw [hn] at hv; cases hv
      | true =>
        rw [hn] at hv
        simp only [cond_true, Option.some.injEq] at hv
        subst hv
        refine run_loadAt_mid w b o t cs ti.desc hr hok.1 ?_ ?_
        · revert ha; cases ti.desc <;> simp [isAggD, TypeDesc.isRow]
        · rw [hi, Option.map_some, hs, Nat.eq_of_beq_eq_true hn]
    | false =>
      rw [ha] at hv
      simp only [cond_false] at hv
      split at hv
      · rename_i u
        simp only [Option.some.injEq] at hv
        subst hv
        have hagg : (isAgg t).run P w = .ok false w := by
          unfold isAgg
          rw [Sem.run_bind, run_underlying hok.1 w]
          revert ha
          cases ti.desc <;> simp [isAggD]
        have hc := hr 0 u rfl
        simp only [Nat.add_zero] at hc
        simp only [Instr.loadAt, Instr.sureAddr, Sem.run_bind, Sem.run_pure, Result.andThen_ok]
        simp only [loadVar, Sem.run_bind, hagg, Result.andThen_ok]
        simp [run_load, hc]
      · cases hv
  · cases hv

theorem ld (hG : Agree P Γ) {v : Value} {K : Value → Prop} (hr : w.rangeAt b o cs) (hv : asV Γ t cs = some v) (hk : K v) : Ld P t (pt b o) w K := ⟨v, run_asV hG hr hv, hk⟩

theorem lay_length : ∀ (vs cs : List Value) (o : Nat), (lay cs o vs).length = cs.length
  | [], cs, o => rfl
  | v :: r, cs, o => by simp only [lay]; rw [lay_length r]; simp

theorem setCells_own : ∀ (vs : List Value) (cs : List Value) (o : Nat) (w : World), Own w b t cs → PutB w b (.cells (lay cs o vs).toArray t (0, 0)) (w.setCells b o vs)
  | [], cs, o, w, h => ⟨h, fun _ _ => rfl, rfl, rfl, rfl, rfl, rfl⟩
  | v :: r, cs, o, w, h => by
    have h1 : Own (w.setCell ⟨b, o, none⟩ v) b t (cs.set o v) := by
      unfold Own at h ⊢
      unfold World.setCell
      simp only [Array.getElem?_modify, if_true, h, Option.map_some]
      simp
    have ih := setCells_own r (cs.set o v) (o + 1) _ h1
    refine ⟨ih.here, fun k hk => (ih.other k hk).trans ?_, ih.size.trans ?_, ih.os, ih.tape, ih.drawn, ih.output⟩
    · unfold World.setCell
      simp only [Array.getElem?_modify]
      rw [if_neg (Ne.symm hk)]
    · simp [World.setCell]

def szOf (Γ : List (Nat × TI)) (t : TypeId) : Option Nat := match look Γ t with | some ti => some ti.size | none => none

theorem cellsL_eq' (v : Value) : v.cells.toList = cellsL v := by cases v <;> rfl

theorem st (hG : Agree P Γ) {ty : TypeId} {v : Value} {K : World → Prop} (hO : Own w b t cs) (hs : szOf Γ ty = some (cellsL v).length) (hle : o + (cellsL v).length ≤ cs.length) (h1 : (cellsL v).all (·.oneCell') = true)
    (hk : ∀ w', w'.heap.size = w.heap.size → Chg (fun k => k = b) w w' → w'.heap[b]? = some (.cells (lay cs o (cellsL v)).toArray t (0, 0)) → K w') : St P ty (pt b o) v w K := by
  have hp := setCells_own (cellsL v) _ o _ hO
  refine ⟨w.setCells b o (cellsL v), ?_, hk _ hp.size hp.chg hp.here⟩
  have hth : ∀ j, j < (cellsL v).length → (w.cell? ⟨b, o + 0 + j, none⟩).isSome = true := fun j hj => by
    rw [cell_of_row w b _ _ t _ hO]
    simp
    omega
  have hfr : ∀ j, j < (cellsL v).length → w.frozen? ⟨b, o + 0 + j, none⟩ = false := fun j hj => by
    unfold World.frozen?
    rw [show w.heap[(⟨b, o + 0 + j, none⟩ : Addr).block]? = _ from hO]
    simp
  have := run_storeCells_cells (P := P) b o (cellsL v) 0 w hth hfr (fun u hu => by simpa using List.all_eq_true.1 h1 u hu)
  simp only [Nat.add_zero] at this
  unfold szOf at hs
  split at hs
  · rename_i ti hl
    obtain ⟨i, hi, hz, hsz, hb⟩ := (hG.look hl).info
    simp only [Option.some.injEq] at hs
    have hcs : v.cells.size = i.size := by rw [hsz, hs, ← cellsL_eq']; simp
    simp only [Instr.storeAt, Instr.sureAddr, Sem.run_bind, Sem.run_pure, Result.andThen_ok]
    simp [storeVar, sizeOf, typeInfo, hi, hcs, cellsL_eq', this]
  · cases hs

theorem sp {p : Prop} {K : Bool → Prop} (h1 : p → K true) (h0 : ¬ p → K false) : Split p K := ⟨h1, h0⟩
theorem spT {p : Prop} {K : Bool → Prop} (hp : p) (h : K true) : Split p K := ⟨fun _ => h, fun hn => absurd hp hn⟩
theorem spF {p : Prop} {K : Bool → Prop} (hp : ¬ p) (h : K false) : Split p K := ⟨fun hn => absurd hn hp, fun _ => h⟩
theorem spB {p : Prop} [Decidable p] {K : Bool → Prop} (h : K (decide p)) : Split p K := ⟨fun hp => by rwa [decide_eq_true hp] at h, fun hn => by rwa [decide_eq_false hn] at h⟩
theorem ar {z : Int} {K : Int → Prop} (h : K z) : Ar z K := ⟨fun x hx => hx ▸ h⟩
theorem wrap64 {z : Int} (h1 : -9223372036854775808 ≤ z) (h2 : z ≤ 9223372036854775807) : IntKind.i64.wrap z = z := by
  show (if (true && decide (z % 18446744073709551616 ≥ 9223372036854775808)) = true then z % 18446744073709551616 - 18446744073709551616 else z % 18446744073709551616) = z
  by_cases h : z % 18446744073709551616 ≥ 9223372036854775808
  · rw [if_pos (by simpa using h)]; omega
  · rw [if_neg (by simpa using h)]; omega
theorem aw {z : Int} {K : Int → Prop} (h1 : -9223372036854775808 ≤ z) (h2 : z ≤ 9223372036854775807) (h : K z) : Ar (IntKind.i64.wrap z) K := ⟨fun x hx => by rw [wrap64 h1 h2] at hx; exact hx ▸ h⟩
theorem ne {p K : Prop} (hp : p) (hk : K) : Need p K := ⟨hp, hk⟩
theorem nd {K : Nat → World → Prop} (h : ∀ b w', w.heap.size = b → w'.heap.size = b + 1 → Kp w w' → w'.heap[b]? = some ob → K b w') : New w ob K :=
  ⟨fun b w' hn => h b w' hn.base hn.size (hn.chg _) hn.heap⟩
theorem cl {g : FuncId} {args : List Value} {R K : Value → World → Prop} (hc : callable P g = true) (h : Calls P g args.toArray w (Ret R)) (hk : ∀ v w', R v w' → K v w') : Call P g args w K :=
  ⟨hc, Calls.mono h fun en w' hr => by
    cases en with
    | returned v => exact hk v w' hr
    | _ => exact hr.elim⟩
theorem again {σ : Type} {slots : σ → List (Nat × Value)} {Inv : σ → World → Prop} {m : σ → Nat} {p : σ} {e : Env} {k : Value} (p' : σ) (h1 : Has e (slots p')) (h2 : Inv p' w) (h3 : m p' < m p) (hm : e mark = k := by rfl) : Again slots Inv m p e w k := ⟨⟨p', h1, h2, h3⟩, hm⟩

/-! ### drawn regions -/
theorem mk_val {S : World → World → Prop} {w0 : World} {Dn : World → Prop} {sem : World → (Value → World → Prop) → Prop} {K : Value → DP → Prop} (v : Value) (h : ∀ W, S w0 W → Dn W → sem W (fun v' W' => v' = v ∧ S W W')) (hm : ∀ W {R R' : Value → World → Prop}, sem W R → (∀ v w, R v w → R' v w) → sem W R')
    (hk : ∀ D, K v D) : Mk S w0 Dn sem K :=
  ⟨Unit, ⟨()⟩, fun _ => v, fun _ _ => True, fun _ _ _ _ _ => trivial, fun W h1 h2 => hm W (h W h1 h2) fun v' w' ⟨ha, hb⟩ => ⟨hb, (), ha, trivial⟩, fun _ D _ => hk D⟩

/-- a load in whatever order -/
theorem ldr {S : World → World → Prop} (hS : Pre S) (hG : Agree P Γ) {e : Env} {w0 : World} {Dn : World → Prop} {op : Oper} {x : Operand} {K : Value → DP → Prop} (ho : op.op = .load t x) (hx : ev e x = pt b o) {v : Value} (hr : ∀ W, S w0 W → Dn W → W.rangeAt b o cs) (hv : asV Γ t cs = some v) (hk : ∀ D, K v D) :
    Mk S w0 Dn (op1 P Γ e op) K :=
  ⟨Unit, ⟨()⟩, fun _ => v, fun _ _ => True, fun _ _ _ _ _ => trivial, fun W h1 h2 => by
    unfold op1
    rw [ho]
    simp only [isPure]
    rw [hx]
    exact ld hG (hr W h1 h2) hv ⟨hS.refl _, (), rfl, trivial⟩, fun _ D _ => hk D⟩

/-- a call in whatever order, of which F is told -/
theorem callr {S : World → World → Prop} {e : Env} {w0 : World} {Dn : World → Prop} {op : Oper} {K : Value → DP → Prop} {c : Go.Call} (F : Value → World → Prop) (ho : op.op = .call c) {f : Operand} {g : FuncId} {first cap : Array Value} (hc : c.callee = .value f) (hf : ev e f = .func (.func g) first cap)
    (hst : ∀ v W W', F v W → S W W' → F v W') (hcall : callable P g = true) (h : ∀ W, S w0 W → Dn W → Calls P g (first.toList ++ c.args.toList.map (ev e) ++ cap.toList).toArray W (Ret fun v W' => S W W' ∧ F v W'))
    (hk : ∀ v D, (∀ W, D W → F v W) → K v D) : Mk S w0 Dn (op1 P Γ e op) K :=
  ⟨Value, ⟨undef⟩, id, F, fun y W W' => hst y W W', fun W h1 h2 => by
    unfold op1
    rw [ho]
    simp only [isPure, hc, hf]
    exact ⟨hcall, Calls.mono (h W h1 h2) fun en w' hr => by
      cases en with
      | returned v => exact ⟨hr.1, v, rfl, hr.2⟩
      | _ => exact hr.elim⟩, fun v D hD => hk v D hD⟩

/-- a call in whatever order whose answer is known -/
theorem callx {S : World → World → Prop} (hS : Pre S) {e : Env} {w0 : World} {Dn : World → Prop} {op : Oper} {K : Value → DP → Prop} {c : Go.Call} {v : Value} (ho : op.op = .call c) {f : Operand} {g : FuncId} {first cap : Array Value} (hc : c.callee = .value f) (hf : ev e f = .func (.func g) first cap)
    (hcall : callable P g = true) (h : ∀ W, S w0 W → Dn W → Calls P g (first.toList ++ c.args.toList.map (ev e) ++ cap.toList).toArray W (Ret fun r W' => r = v ∧ Kp W W'))
    (hk : ∀ D, K v D) : Mk S w0 Dn (op1 P Γ e op) K :=
  ⟨Unit, ⟨()⟩, fun _ => v, fun _ _ => True, fun _ _ _ _ _ => trivial, fun W h1 h2 => by
    unfold op1
    rw [ho]
    simp only [isPure, hc, hf]
    exact ⟨hcall, Calls.mono (h W h1 h2) fun en w' hr => by
      cases en with
      | returned v => exact ⟨hS.kp hr.2, (), hr.1, trivial⟩
      | _ => exact hr.elim⟩, fun _ D _ => hk D⟩

/-- a slice that is written out, in whatever order -/
theorem bsr {S : World → World → Prop} (hS : Pre S) {e : Env} {w0 : World} {Dn : World → Prop} {op : Oper} {K : Value → DP → Prop} {t el : TypeId} {len : Nat} {parts : Array (Nat × Operand)} {ti tj : TI} {cs : List Value} (ho : op.op = .buildSlice t len parts) (hl : look Γ t = some ti) (hd : ti.desc = .slice el) (hj : look Γ el = some tj)
    (hf : fillA tj.size e (rep (cellsL tj.zero) len) parts.toList = some cs) (hn : len * tj.size ≤ 16777216) (hst : ∀ b o W W', w0.heap.size ≤ b → W.heap[b]? = some o → S W W' → W'.heap[b]? = some o) (hsz : ∀ W, S w0 W → w0.heap.size ≤ W.heap.size)
    (hk : ∀ b D, (∀ W, D W → W.heap[b]? = some (.cells cs.toArray el (0, 0)) ∧ w0.heap.size ≤ b) → K (.slice (some ⟨b, 0, none⟩) len len) D) : Mk S w0 Dn (op1 P Γ e op) K :=
  ⟨Nat, ⟨0⟩, fun b => .slice (some ⟨b, 0, none⟩) len len, fun b W => W.heap[b]? = some (.cells cs.toArray el (0, 0)) ∧ w0.heap.size ≤ b, fun b W W' h hc => ⟨hst _ _ _ _ h.2 h.1 hc, h.2⟩, fun W h1 h2 => by
    unfold op1
    rw [ho]
    simp only [isPure, hl, hd, hj, hf]
    exact ⟨hn, nd fun b W' e1 e2 k m => ⟨hS.kp k, b, rfl, m, by rw [← e1]; exact hsz W h1⟩⟩, fun b D hD => hk b D hD⟩

/-- the same where nothing old turns -/
theorem ldk (hG : Agree P Γ) {e : Env} {w0 : World} {Dn : World → Prop} {op : Oper} {x : Operand} {K : Value → DP → Prop} (ho : op.op = .load t x) (hx : ev e x = pt b o) {v : Value} (hr : ∀ W, Kp w0 W → Dn W → W.rangeAt b o cs) (hv : asV Γ t cs = some v) (hk : ∀ D, K v D) :
    Mk Kp w0 Dn (op1 P Γ e op) K := ldr (preChg _) hG ho hx hr hv hk
theorem callk {e : Env} {w0 : World} {Dn : World → Prop} {op : Oper} {K : Value → DP → Prop} {c : Go.Call} {v : Value} (ho : op.op = .call c) {f : Operand} {g : FuncId} {first cap : Array Value} (hc : c.callee = .value f) (hf : ev e f = .func (.func g) first cap)
    (hcall : callable P g = true) (h : ∀ W, Kp w0 W → Dn W → Calls P g (first.toList ++ c.args.toList.map (ev e) ++ cap.toList).toArray W (Ret fun r W' => r = v ∧ Kp W W'))
    (hk : ∀ D, K v D) : Mk Kp w0 Dn (op1 P Γ e op) K := callx (preChg _) ho hc hf hcall h hk
theorem bsk {e : Env} {w0 : World} {Dn : World → Prop} {op : Oper} {K : Value → DP → Prop} {t el : TypeId} {len : Nat} {parts : Array (Nat × Operand)} {ti tj : TI} {cs : List Value} (ho : op.op = .buildSlice t len parts) (hl : look Γ t = some ti) (hd : ti.desc = .slice el) (hj : look Γ el = some tj)
    (hf : fillA tj.size e (rep (cellsL tj.zero) len) parts.toList = some cs) (hn : len * tj.size ≤ 16777216)
    (hk : ∀ b D, (∀ W, D W → W.heap[b]? = some (.cells cs.toArray el (0, 0)) ∧ w0.heap.size ≤ b) → K (.slice (some ⟨b, 0, none⟩) len len) D) : Mk Kp w0 Dn (op1 P Γ e op) K :=
  bsr (preChg _) ho hl hd hj hf hn (fun _ _ _ _ _ h k => k.heap h id) (fun _ k => k.size) hk

/-! ### rows -/
/-- a slice that holds these: where it lies, lo ≤ .. < hi -/
def RowE {α : Type} (E : World → List Value → α → Prop) (size lo hi : Nat) (w : World) (v : Value) (xs : List α) : Prop :=
  ∃ a cap, v = .slice a xs.length cap ∧ xs.length ≤ cap ∧ ∀ i x, xs[i]? = some x → ∃ b o, a = some ⟨b, o, none⟩ ∧ lo ≤ b ∧ b < hi ∧ ∃ cs, cs.length = size ∧ w.rangeAt b (o + i * size) cs ∧ E w cs x

theorem RowE.mono {α : Type} {E E' : World → List Value → α → Prop} {size lo hi lo' hi' : Nat} {v : Value} {xs : List α} (h : RowE E size lo hi w v xs) (hE : ∀ cs x, E w cs x → E' w cs x) (h1 : lo' ≤ lo) (h2 : hi ≤ hi') : RowE E' size lo' hi' w v xs := by
  obtain ⟨a, cap, hv, hc, h⟩ := h
  refine ⟨a, cap, hv, hc, fun i x hx => ?_⟩
  obtain ⟨b, o, ha, hlo, hhi, cs, hl, hr, he⟩ := h i x hx
  exact ⟨b, o, ha, by omega, by omega, cs, hl, hr, hE _ _ he⟩

theorem RowE.chg {α : Type} {E : World → List Value → α → Prop} {size lo hi : Nat} {v : Value} {xs : List α} (h : RowE E size lo hi w v xs) (hc : Chg S w w') (hs : ∀ k, lo ≤ k → k < hi → ¬ S k) (hE : ∀ cs x, E w cs x → E w' cs x) : RowE E size lo hi w' v xs := by
  obtain ⟨a, cap, hv, hcap, h⟩ := h
  refine ⟨a, cap, hv, hcap, fun i x hx => ?_⟩
  obtain ⟨b, o, ha, hlo, hhi, cs, hl, hr, he⟩ := h i x hx
  exact ⟨b, o, ha, hlo, hhi, cs, hl, hc.range hr (hs b hlo hhi), hE _ _ he⟩

end
end Go.Au

namespace Go.Au
open Go Go.RowKit Go.MapKept
open Go.Maps (Keyed)

/-! ### lists of pairs, by their first parts -/
section
variable {α β : Type} [DecidableEq α]
def alook : List (α × β) → α → Option β
  | [], _ => none
  | (a, b) :: r, x => if a = x then some b else alook r x
def aput : List (α × β) → α → β → List (α × β)
  | [], x, v => [(x, v)]
  | (a, b) :: r, x, v => if a = x then (x, v) :: r else (a, b) :: aput r x v

theorem alook_none {l : List (α × β)} {x : α} (h : ∀ p ∈ l, p.1 ≠ x) : alook l x = none := by
  induction l with
  | nil => rfl
  | cons p r ih =>
    obtain ⟨a, b⟩ := p
    simp only [alook]
    rw [if_neg (h _ List.mem_cons_self)]
    exact ih fun p hp => h p (List.mem_cons_of_mem _ hp)
theorem alook_mem {l : List (α × β)} {x : α} {v : β} (hn : (l.map (·.1)).Nodup) (h : (x, v) ∈ l) : alook l x = some v := by
  induction l with
  | nil => simp at h
  | cons p r ih =>
    obtain ⟨a, b⟩ := p
    simp only [List.map_cons, List.nodup_cons] at hn
    simp only [alook]
    rcases List.mem_cons.1 h with h | h
    · simp only [Prod.mk.injEq] at h
      rw [if_pos h.1.symm, h.2]
    · rw [if_neg fun he => hn.1 (List.mem_map.2 ⟨_, h, he.symm⟩)]
      exact ih hn.2 h
theorem aput_new {l : List (α × β)} {x : α} {v : β} (h : ∀ p ∈ l, p.1 ≠ x) : aput l x v = l ++ [(x, v)] := by
  induction l with
  | nil => rfl
  | cons p r ih =>
    obtain ⟨a, b⟩ := p
    simp only [aput]
    rw [if_neg (h _ List.mem_cons_self), ih fun p hp => h p (List.mem_cons_of_mem _ hp)]
    rfl
theorem aput_set {l : List (α × β)} {x : α} {v : β} (hn : (l.map (·.1)).Nodup) {i : Nat} {u : β} (h : l[i]? = some (x, u)) : aput l x v = l.set i (x, v) := by
  induction l generalizing i with
  | nil => simp at h
  | cons p r ih =>
    obtain ⟨a, b⟩ := p
    simp only [List.map_cons, List.nodup_cons] at hn
    cases i with
    | zero =>
      simp at h
      simp [aput, h.1]
    | succ i =>
      simp at h
      simp only [aput]
      rw [if_neg fun he => hn.1 (List.mem_map.2 ⟨_, List.mem_of_getElem? h, he.symm⟩), ih hn.2 h]
      rfl
theorem alook_aput {l : List (α × β)} {x y : α} {v : β} : alook (aput l x v) y = if x = y then some v else alook l y := by
  induction l with
  | nil => simp [aput, alook]
  | cons p r ih =>
    obtain ⟨a, b⟩ := p
    simp only [aput]
    by_cases ha : a = x
    · subst ha
      rw [if_pos rfl]
      simp only [alook]
      split <;> rfl
    · rw [if_neg ha]
      simp only [alook, ih]
      by_cases hy : a = y
      · subst hy
        rw [if_pos rfl, if_neg (Ne.symm ha), if_pos rfl]
      · rw [if_neg hy, if_neg hy]
theorem aput_length {l : List (α × β)} {x : α} {v : β} : (aput l x v).length = if (alook l x).isSome then l.length else l.length + 1 := by
  induction l with
  | nil => rfl
  | cons p r ih =>
    obtain ⟨a, b⟩ := p
    simp only [aput, alook]
    by_cases ha : a = x
    · simp [ha]
    · simp only [if_neg ha, List.length_cons, ih]
      split <;> simp
theorem aput_le {l : List (α × β)} {x : α} {v : β} : (aput l x v).length ≤ l.length + 1 := by rw [aput_length]; split <;> omega
end

/-- a block that is a map with these entries -/
structure MapE {α β : Type} (P : Program) (k : TypeId) (ek : α → Value) (ev : β → Value) (w : World) (b : Nat) (xs : List (α × β)) : Prop where
  h : ∃ es clock, w.heap[b]? = some (.map es clock) ∧ es.toList.map (fun e => (e.key, e.val)) = xs.map (fun p => (ek p.1, ev p.2)) ∧ Stamped es clock ∧ ∀ e ∈ es.toList, ∃ lit, keyOf P k e.key = some lit
  inj : ∀ x y, ek x = ek y → x = y

section
variable {α β : Type} [DecidableEq α] {P : Program} {Γ : List (Nat × TI)} {k : TypeId} {ek : α → Value} {ev : β → Value} {w w' : World} {b : Nat} {xs : List (α × β)}

theorem MapE.lt (h : MapE P k ek ev w b xs) : b < w.heap.size := by
  obtain ⟨es, clock, hb, _⟩ := h.h
  exact lt_of_heap hb
theorem MapE.chg {S : Nat → Prop} (h : MapE P k ek ev w b xs) (hc : Chg S w w') (hs : ¬ S b) : MapE P k ek ev w' b xs := by
  obtain ⟨es, clock, hb, h1⟩ := h.h
  exact ⟨⟨es, clock, hc.heap hb hs, h1⟩, h.inj⟩
theorem MapE.made (h : w.heap[b]? = some (.map #[] 0)) (hi : ∀ x y, ek x = ek y → x = y) : MapE (β := β) P k ek ev w b [] :=
  ⟨⟨#[], 0, h, rfl, stamped_empty 0, by simp⟩, hi⟩

theorem MapE.nodup (h : MapE P k ek ev w b xs) : (xs.map (·.1)).Nodup := by
  obtain ⟨es, clock, hb, hm, hst, hk⟩ := h.h
  have h1 : (es.toList.map (·.key)) = xs.map (fun p => ek p.1) := by
    have := congrArg (List.map (·.1)) hm
    simpa [Function.comp_def] using this
  have h2 := hst.2.2
  rw [h1] at h2
  have h3 : xs.map (fun p => ek p.1) = (xs.map (·.1)).map ek := by simp [Function.comp_def]
  rw [h3] at h2
  exact List.Pairwise.of_map ek (fun x y hxy he => hxy (by rw [he])) h2

/-- where a key is -/
theorem MapE.find (K : Keyed P k) (h : MapE P k ek ev w b xs) {a : α} (hk : ∃ lit, keyOf P k (ek a) = some lit) :
    ∃ es clock, w.heap[b]? = some (.map es clock) ∧ es.toList.map (fun e => (e.key, e.val)) = xs.map (fun p => (ek p.1, ev p.2)) ∧ Stamped es clock ∧ (∀ e ∈ es.toList, ∃ lit, keyOf P k e.key = some lit) ∧
      (∀ em, (Instr.checkKey em 10000 k (ek a)).run P w = .ok () w) ∧ (Instr.keyThatStays (ek a) (ek a)).run P w = .ok (ek a) w ∧
      (((Instr.findKey k (ek a) es.toList).run P w = .ok none w ∧ (∀ e ∈ es.toList, e.key ≠ ek a) ∧ ∀ p ∈ xs, p.1 ≠ a) ∨
      ∃ j e v, (Instr.findKey k (ek a) es.toList).run P w = .ok (some (j, ev v)) w ∧ es[j]? = some e ∧ e.key = ek a ∧ e.val = ev v ∧ xs[j]? = some (a, v)) := by
  obtain ⟨es, clock, hb, hm, hst, hks⟩ := h.h
  obtain ⟨lit, hl⟩ := hk
  refine ⟨es, clock, hb, hm, hst, hks, fun em => K.check w em hl, K.stays w hl, ?_⟩
  rcases K.find w hl es.toList hks with ⟨h1, h2⟩ | ⟨j, e, h1, h2, h3⟩
  · refine .inl ⟨h1, h2, fun p hp he => ?_⟩
    have : (ek p.1, ev p.2) ∈ xs.map (fun p => (ek p.1, ev p.2)) := List.mem_map.2 ⟨p, hp, rfl⟩
    rw [← hm] at this
    obtain ⟨e, hme, heq⟩ := List.mem_map.1 this
    simp only [Prod.mk.injEq] at heq
    exact h2 e hme (by rw [heq.1, he])
  · have hj := congrArg (fun l => l[j]?) hm
    simp only [List.getElem?_map, h2, Option.map_some] at hj
    cases hx : xs[j]? with
    | none => rw [hx] at hj; cases hj
    | some p =>
      obtain ⟨a', v⟩ := p
      rw [hx] at hj
      simp only [Option.map_some, Option.some.injEq, Prod.mk.injEq] at hj
      obtain ⟨hj1, hj2⟩ := hj
      have : a' = a := h.inj _ _ (by rw [← hj1, h3])
      subst this
      exact .inr ⟨j, e, v, by rw [← hj2]; exact h1, by simpa using h2, h3, hj2, hx⟩

variable {t el : TypeId} {ti tj : TI}

theorem MapE.lookup (hG : Agree P Γ) (K : Keyed P k) (ht : look Γ t = some ti) (hd : ti.desc = .map k el) (hel : look Γ el = some tj) (h : MapE P k ek ev w b xs) (a : α) (hk : ∃ lit, keyOf P k (ek a) = some lit) (c : Bool) :
    (Instr.lookup t (.map (some b)) (ek a) c).run P w = .ok (match alook xs a with
      | some v => if c then .tuple #[ev v, .bool true] else ev v
      | none => if c then .tuple #[tj.zero, .bool false] else tj.zero) w := by
  obtain ⟨es, clock, hb, hm, hst, hks, hc, hs, hf⟩ := h.find K hk
  have hu := (hG.look ht).1
  simp only [hd] at hu
  have hz := run_zero (hG.look hel) w
  rcases hf with ⟨h1, h2, h3⟩ | ⟨j, e, v, h1, h2, h3, h4, h5⟩
  · rw [alook_none h3]
    simp [Instr.lookup, run_underlying hu, MapKept.run_getObj_map hb, hc, h1, hz, Result.andThen]
  · rw [alook_mem h.nodup (List.mem_of_getElem? h5)]
    simp [Instr.lookup, run_underlying hu, MapKept.run_getObj_map hb, hc, h1, Result.andThen]

theorem putB_obj {o : Obj} (hb : b < w.heap.size) : PutB w b o { w with heap := w.heap.setIfInBounds b o } :=
  ⟨by simp [hb], fun k hk => by simp [Array.getElem?_setIfInBounds, Ne.symm hk], by simp, rfl, rfl, rfl, rfl⟩

theorem modify_set {es : Array MapEntry} {j : Nat} {e : MapEntry} (h : es[j]? = some e) (f : MapEntry → MapEntry) : (es.modify j f).toList = es.toList.set j (f e) := by
  apply List.ext_getElem?
  intro i
  simp only [Array.getElem?_toList, Array.getElem?_modify, List.getElem?_set]
  by_cases hij : j = i
  · subst hij
    rw [if_pos rfl, if_pos rfl, h]
    have : j < es.toList.length := by simpa using (Array.getElem?_eq_some_iff.1 h).1
    rw [if_pos this]; rfl
  · rw [if_neg hij, if_neg hij]
    try rfl

theorem MapE.update (hG : Agree P Γ) (K : Keyed P k) (ht : look Γ t = some ti) (hd : ti.desc = .map k el) (h : MapE P k ek ev w b xs) (a : α) (v : β) (hk : ∃ lit, keyOf P k (ek a) = some lit) :
    ∃ w', (Instr.mapUpdate t (.map (some b)) (ek a) (ev v)).run P w = .ok () w' ∧ MapE P k ek ev w' b (aput xs a v) ∧ w'.heap.size = w.heap.size ∧ Chg (fun k => k = b) w w' := by
  obtain ⟨es, clock, hb, hm, hst, hks, hc, hs, hf⟩ := h.find K hk
  have hu := (hG.look ht).1
  simp only [hd] at hu
  have hlt := lt_of_heap hb
  rcases hf with ⟨h1, h2, h3⟩ | ⟨j, e, v', h1, h2, h3, h4, h5⟩
  · have hp := putB_obj (w := w) (o := .map (es.push { key := ek a, val := ev v, born := clock }) (clock + 1)) hlt
    refine ⟨_, ?_, ⟨⟨_, _, hp.here, ?_, stamped_push hst h2, ?_⟩, h.inj⟩, hp.size, hp.chg⟩
    · simp [Instr.mapUpdate, run_underlying hu, MapKept.run_getObj_map hb, hc, h1, MapKept.run_setObj_map _ hb, Result.andThen]
    · rw [aput_new h3, Array.toList_push, List.map_append, hm]
      simp
    · intro x hx
      simp only [Array.toList_push, List.mem_append, List.mem_singleton] at hx
      rcases hx with hx | rfl
      · exact hks x hx
      · exact hk
  · have hp := putB_obj (w := w) (o := .map (es.modify j fun e' => { e' with key := ek a, val := ev v }) clock) hlt
    refine ⟨_, ?_, ⟨⟨_, _, hp.here, ?_, stamped_modify hst j _ (fun _ _ => rfl) fun e' _ he' => ?_, ?_⟩, h.inj⟩, hp.size, hp.chg⟩
    · simp [Instr.mapUpdate, run_underlying hu, MapKept.run_getObj_map hb, hc, h1, h2, h3, hs, MapKept.run_setObj_map _ hb, Result.andThen]
    · rw [aput_set h.nodup h5, modify_set h2, List.map_set, hm, List.map_set]
    · rw [h2] at he'; cases he'; exact h3.symm
    · intro x hx
      rw [modify_set h2] at hx
      rcases List.mem_or_eq_of_mem_set hx with hx | rfl
      · exact hks x hx
      · exact hk

/-- an entry that has been taken hold of -/
structure EntE {α β : Type} (P : Program) (k : TypeId) (ek : α → Value) (ev : β → Value) (w : World) (b : Nat) (xs : List (α × β)) (a : α) (stamp : Nat) : Prop where
  h : ∃ (es : Array MapEntry) (clock j : Nat) (e : MapEntry) (v : β), w.heap[b]? = some (.map es clock) ∧ es.toList.map (fun e => (e.key, e.val)) = xs.map (fun p => (ek p.1, ev p.2)) ∧ Stamped es clock ∧ (∀ e ∈ es.toList, ∃ lit, keyOf P k e.key = some lit) ∧ es[j]? = some e ∧ e.born = stamp ∧ xs[j]? = some (a, v) ∧ e.key = ek a
  inj : ∀ x y, ek x = ek y → x = y

theorem EntE.chg {S : Nat → Prop} {a : α} {s : Nat} (h : EntE P k ek ev w b xs a s) (hc : Chg S w w') (hs : ¬ S b) : EntE P k ek ev w' b xs a s := by
  obtain ⟨es, clock, j, e, v, hb, h1⟩ := h.h
  exact ⟨⟨es, clock, j, e, v, hc.heap hb hs, h1⟩, h.inj⟩
theorem EntE.mapE {a : α} {s : Nat} (h : EntE P k ek ev w b xs a s) : MapE P k ek ev w b xs := by
  obtain ⟨es, clock, j, e, v, hb, h1, h2, h3, _⟩ := h.h
  exact ⟨⟨es, clock, hb, h1, h2, h3⟩, h.inj⟩

/-- what is read where an entry is taken hold of; z: the zero value -/
theorem MapE.entry (hG : Agree P Γ) (K : Keyed P k) (ht : look Γ t = some ti) (hd : ti.desc = .map k el) (hel : look Γ el = some tj) {z : β} (hz : tj.zero = ev z) (h : MapE P k ek ev w b xs) (a : α) (hk : ∃ lit, keyOf P k (ek a) = some lit) :
    ∃ (w' : World) (s : Nat), (Instr.mapEntry t (.map (some b)) (ek a)).run P w = .ok (.tuple #[ev ((alook xs a).getD z), goInt s]) w' ∧ EntE P k ek ev w' b (aput xs a ((alook xs a).getD z)) a s ∧ w'.heap.size = w.heap.size ∧ Chg (fun k => k = b) w w' := by
  obtain ⟨es, clock, hb, hm, hst, hks, hc, hs, hf⟩ := h.find K hk
  have hu := (hG.look ht).1
  simp only [hd] at hu
  have hlt := lt_of_heap hb
  have hzr := run_zero (hG.look hel) w
  rcases hf with ⟨h1, h2, h3⟩ | ⟨j, e, v', h1, h2, h3, h4, h5⟩
  · have hp := putB_obj (w := w) (o := .map (es.push { key := ek a, val := ev z, born := clock }) (clock + 1)) hlt
    have hn := alook_none h3
    refine ⟨_, clock, ?_, ⟨⟨_, _, es.size, { key := ek a, val := ev z, born := clock }, z, hp.here, ?_, stamped_push hst h2, ?_, by simp, rfl, ?_, rfl⟩, h.inj⟩, hp.size, hp.chg⟩
    · rw [hn]
      simp [Instr.mapEntry, run_underlying hu, MapKept.run_getObj_map hb, hc, h1, hzr, hz, MapKept.run_setObj_map _ hb, Result.andThen]
    · rw [hn, aput_new h3, Array.toList_push, List.map_append, hm]
      simp
    · intro x hx
      simp only [Array.toList_push, List.mem_append, List.mem_singleton] at hx
      rcases hx with hx | rfl
      · exact hks x hx
      · exact hk
    · have hl := congrArg List.length hm
      simp at hl
      rw [hn, aput_new h3, hl]
      simp
  · have hp := putB_obj (w := w) (o := .map (es.modify j fun e' => { e' with key := ek a }) clock) hlt
    have hn := alook_mem h.nodup (List.mem_of_getElem? h5)
    refine ⟨_, e.born, ?_, ⟨⟨_, _, j, { e with key := ek a }, v', hp.here, ?_, stamped_modify hst j _ (fun _ _ => rfl) fun e' _ he' => ?_, ?_, ?_, rfl, ?_, rfl⟩, h.inj⟩, hp.size, hp.chg⟩
    · rw [hn]
      simp [Instr.mapEntry, run_underlying hu, MapKept.run_getObj_map hb, hc, h1, h2, h3, hs, MapKept.run_setObj_map _ hb, Result.andThen]
    · rw [hn, Option.getD_some, aput_set h.nodup h5, modify_set h2, List.map_set, hm, List.map_set, h4]
    · rw [h2] at he'; cases he'; exact h3.symm
    · intro x hx
      rw [modify_set h2] at hx
      rcases List.mem_or_eq_of_mem_set hx with hx | rfl
      · exact hks x hx
      · exact hk
    · rw [← Array.getElem?_toList, modify_set h2, List.getElem?_set_self (by simpa using (Array.getElem?_eq_some_iff.1 h2).1)]
    · rw [hn, Option.getD_some, aput_set h.nodup h5, List.getElem?_set_self (List.getElem?_eq_some_iff.1 h5).1]

theorem EntE.store {a : α} {s : Nat} (h : EntE P k ek ev w b xs a s) (v : β) :
    ∃ w', (Instr.entryStore t (.map (some b)) (goInt s) (ev v)).run P w = .ok () w' ∧ MapE P k ek ev w' b (aput xs a v) ∧ w'.heap.size = w.heap.size ∧ Chg (fun k => k = b) w w' := by
  have hnd := h.mapE.nodup
  obtain ⟨es, clock, j, e, v0, hb, hm, hst, hks, hj, hbn, hx, hke⟩ := h.h
  have hlt := lt_of_heap hb
  have hp := putB_obj (w := w) (o := .map (es.modify j fun e' => { e' with val := ev v }) clock) hlt
  have hfi : es.findIdx? (fun e => (e.born : Int) == (s : Int)) = some j := by
    have hjl := (Array.getElem?_eq_some_iff.1 hj)
    obtain ⟨hjl, hje⟩ := hjl
    rw [Array.findIdx?_eq_some_iff_getElem]
    refine ⟨hjl, by rw [hje, hbn]; simp, fun i hij => ?_⟩
    have hb2 := hst.2.1
    rw [List.nodup_iff_pairwise_ne, List.pairwise_map] at hb2
    have := List.pairwise_iff_getElem.1 hb2 i j (by simp; omega) (by simpa using hjl) hij
    simp only [Array.getElem_toList] at this
    rw [hje, hbn] at this
    simp; omega
  refine ⟨_, ?_, ⟨⟨_, _, hp.here, ?_, stamped_modify hst j _ (fun _ _ => rfl) fun e' _ _ => rfl, ?_⟩, h.inj⟩, hp.size, hp.chg⟩
  · simp [Instr.entryStore, MapKept.run_getObj_map hb, goInt, asInt, asIntOf, hfi, MapKept.run_setObj_map _ hb, Result.andThen]
  · rw [aput_set hnd hx, modify_set hj, List.map_set, hm, List.map_set, hke]
  · intro x hx'
    rw [modify_set hj] at hx'
    rcases List.mem_or_eq_of_mem_set hx' with hx' | rfl
    · exact hks x hx'
    · exact hks e (by simpa using List.mem_of_getElem? (l := es.toList) (by simpa using hj))
end
end Go.Au

namespace Go.Au
open Go Go.RowKit Go.MapKept
open Go.Maps (Keyed)
section
variable {P : Program} {Γ : List (Nat × TI)} {w : World} {S : Nat → Prop} {t : TypeId}

def isStr (Γ : List (Nat × TI)) (t : TypeId) : Bool := match look Γ t with
  | some ti => match ti.desc with
    | .string => true
    | _ => false
  | none => false
theorem isStr_spec (hG : Agree P Γ) (h : isStr Γ t = true) : P.underlying t = some .string := by
  unfold isStr at h
  split at h
  · rename_i ti hl
    have := (hG.look hl).1
    split at h
    · rename_i hd; simp only [hd] at this; exact this
    · cases h
  · cases h

/-- a byte of a string -/
theorem ixS (hG : Agree P Γ) {ρ : Operand → Value} {o : Oper} {x i : Operand} {s : ByteArray} {k : IntKind} {j : Nat} {K : Value → Prop} (ho : o.op = .index t x i) (ht : isStr Γ t = true) (hx : ρ x = .string s) (hi : ρ i = .int k j) (h1 : j < s.size)
    (hk : K (.int .u8 (s[j]'h1).toNat)) : PR P ρ o K := by
  refine ⟨_, fun w => ?_, hk⟩
  unfold execOp
  rw [ho]
  simp only [hx, hi]
  have hu := isStr_spec hG ht
  simp [Instr.index, asIntOf, run_underlying hu, h1, Result.andThen]

/-- a look into a map -/
theorem lk {s : Sem Value} {v : Value} {K : Value → World → Prop} (h : s.run P w = .ok v w) (hk : K v w) : Run P s w K := ⟨v, w, h, hk⟩
theorem mu {s : Sem Unit} {R : World → Prop} {K : World → Prop} (h : ∃ w', s.run P w = .ok () w' ∧ R w') (hk : ∀ w', R w' → K w') : RunU P s w K := by
  obtain ⟨w', h1, h2⟩ := h
  exact ⟨w', h1, hk w' h2⟩
theorem rawOf {ρ : Operand → Value} {o : Oper} {v : Value} {w' : World} {K : Value → World → Prop} (h : (execOp ρ o).run P w = .ok (.value v) w') (hk : K v w') : Raw P ρ o w K := ⟨v, w', h, hk⟩

/-- a row of single cells, at the head of a block -/
theorem row1 {α : Type} {f : α → Value} {b lo hi cap n : Nat} {cs : List Value} {xs : List α} {fr : Nat × Nat} (h : w.heap[b]? = some (.cells cs.toArray t fr)) (hp : cs.take xs.length = xs.map f) (hn : n = xs.length) (hc : n ≤ cap) (h1 : lo ≤ b) (h2 : b < hi) :
    RowE (fun _ c x => c = [f x]) 1 lo hi w (.slice (some ⟨b, 0, none⟩) n cap) xs := by
  subst hn
  refine ⟨_, cap, rfl, hc, fun i x hx => ⟨b, 0, rfl, h1, h2, [f x], rfl, ?_, rfl⟩⟩
  intro j v hv
  cases j with
  | succ j => simp at hv
  | zero =>
    simp at hv
    subst hv
    rw [cell_of_row w b _ _ t _ h]
    have hi := (List.getElem?_eq_some_iff.1 hx).1
    have := congrArg (fun l => l[i]?) hp
    simp only [List.getElem?_take, if_pos hi, List.getElem?_map, hx, Option.map_some] at this
    simpa using this

/-- a row of single cells, each of which is told -/
theorem row1R {α : Type} {E : World → List Value → α → Prop} {b lo hi cap n : Nat} {cs : List Value} {xs : List α} {fr : Nat × Nat} (h : w.heap[b]? = some (.cells cs.toArray t fr)) (hp : ∀ (i : Nat) (x : α), xs[i]? = some x → ∃ u, cs[i]? = some u ∧ E w [u] x) (hn : n = xs.length) (hc : n ≤ cap) (h1 : lo ≤ b) (h2 : b < hi) :
    RowE E 1 lo hi w (.slice (some ⟨b, 0, none⟩) n cap) xs := by
  subst hn
  refine ⟨_, cap, rfl, hc, fun i x hx => ?_⟩
  obtain ⟨u, hu, he⟩ := hp i x hx
  refine ⟨b, 0, rfl, h1, h2, [u], rfl, ?_, he⟩
  intro j v hv
  cases j with
  | succ j => simp at hv
  | zero =>
    simp at hv
    subst hv
    rw [cell_of_row w b _ _ t _ h]
    simpa using hu

end
end Go.Au

namespace Go.Au
open Go Go.RowKit Go.MapKept
open Go.Maps (Keyed)

section
variable {α β : Type} [DecidableEq α]
theorem aput_aput {l : List (α × β)} {x : α} {v u : β} : aput (aput l x v) x u = aput l x u := by
  induction l with
  | nil => simp [aput]
  | cons p r ih =>
    obtain ⟨a, b⟩ := p
    simp only [aput]
    by_cases h : a = x
    · rw [if_pos h, if_pos h]; simp [aput]
    · rw [if_neg h, if_neg h]; simp only [aput]; rw [if_neg h, ih]

/-- what is read under a key -/
def aget (l : List (α × β)) (z : β) (x : α) : β := (alook l x).getD z
theorem aget_aput {l : List (α × β)} {z : β} {x y : α} {v : β} : aget (aput l x v) z y = if x = y then v else aget l z y := by
  unfold aget
  rw [alook_aput]
  split <;> rfl
/-- an entry has come in at most -/
def Ext (z : β) (a : α) (l l' : List (α × β)) : Prop := l' = l ∨ l' = aput l a (aget l z a)
theorem Ext.get {z : β} {a : α} {l l' : List (α × β)} (h : Ext z a l l') (x : α) : aget l' z x = aget l z x := by
  rcases h with rfl | rfl
  · rfl
  · rw [aget_aput]; split
    · rename_i h; rw [h]
    · rfl
theorem Ext.trans {z : β} {a : α} {l l' l'' : List (α × β)} (h : Ext z a l l') (k : Ext z a l' l'') : Ext z a l l'' := by
  rcases k with rfl | rfl
  · exact h
  · rw [h.get]
    rcases h with rfl | rfl
    · exact .inr rfl
    · rw [aput_aput]; exact .inr rfl
theorem Ext.put {z : β} {a : α} {l l' : List (α × β)} (h : Ext z a l l') (v : β) : aput l' a v = aput l a v := by
  rcases h with rfl | rfl
  · rfl
  · rw [aput_aput]
end

section
variable {α β : Type} [DecidableEq α] {P : Program} {Γ : List (Nat × TI)} {k : TypeId} {ek : α → Value} {ev' : β → Value} {w w' : World} {m : Nat} {xs : List (α × β)}

/-- beside a change of one entry of a map -/
structure MapR (P : Program) (k : TypeId) (ek : α → Value) (ev' : β → Value) (z : β) (m : Nat) (a : α) (W W' : World) : Prop where
  chg : Chg (fun b => b = m) W W'
  map : ∀ xs, MapE P k ek ev' W m xs → ∃ xs', MapE P k ek ev' W' m xs' ∧ Ext z a xs xs'
  ent : ∀ xs s, EntE P k ek ev' W m xs a s → ∃ xs', EntE P k ek ev' W' m xs' a s ∧ Ext z a xs xs'

theorem preMapR (P : Program) (k : TypeId) (ek : α → Value) (ev' : β → Value) (z : β) (m : Nat) (a : α) : Pre (MapR P k ek ev' z m a) :=
  ⟨fun h => ⟨h.mono fun _ hf => hf.elim, fun xs hx => ⟨xs, hx.chg h id, .inl rfl⟩, fun xs s hx => ⟨xs, hx.chg h id, .inl rfl⟩⟩,
   fun h g => ⟨h.chg.trans g.chg, fun xs hx => by
      obtain ⟨x1, h1, e1⟩ := h.map xs hx
      obtain ⟨x2, h2, e2⟩ := g.map x1 h1
      exact ⟨x2, h2, e1.trans e2⟩, fun xs s hx => by
      obtain ⟨x1, h1, e1⟩ := h.ent xs s hx
      obtain ⟨x2, h2, e2⟩ := g.ent x1 s h1
      exact ⟨x2, h2, e1.trans e2⟩⟩⟩

/-- an operation in whatever order whose answer is known, and which turns nothing -/
theorem runr {S : World → World → Prop} (hS : Pre S) {e : Env} {w0 : World} {Dn : World → Prop} {op : Oper} {K : Value → DP → Prop} {v : Value} (h : ∀ W, S w0 W → Dn W → op1 P Γ e op W (fun v' W' => v' = v ∧ W' = W)) (hm : ∀ W {R R' : Value → World → Prop}, op1 P Γ e op W R → (∀ v w, R v w → R' v w) → op1 P Γ e op W R') (hk : ∀ D, K v D) : Mk S w0 Dn (op1 P Γ e op) K :=
  ⟨Unit, ⟨()⟩, fun _ => v, fun _ _ => True, fun _ _ _ _ _ => trivial, fun W h1 h2 => hm W (h W h1 h2) fun v' W' ⟨a, b⟩ => by subst b; exact ⟨hS.refl _, (), a, trivial⟩, fun _ D _ => hk D⟩

/-- a look into a map in whatever order -/
theorem lkr {S : World → World → Prop} (hS : Pre S) {e : Env} {w0 : World} {Dn : World → Prop} {op : Oper} {K : Value → DP → Prop} {t : TypeId} {x y : Operand} {c : Bool} {v : Value} (ho : op.op = .lookup t x y c)
    (h : ∀ W, S w0 W → Dn W → (Instr.lookup t (ev e x) (ev e y) c).run P W = .ok v W) (hk : ∀ D, K v D) : Mk S w0 Dn (op1 P Γ e op) K :=
  ⟨Unit, ⟨()⟩, fun _ => v, fun _ _ => True, fun _ _ _ _ _ => trivial, fun W h1 h2 => by
    unfold op1
    rw [ho]
    exact ⟨v, W, h W h1 h2, hS.refl _, (), rfl, trivial⟩, fun _ D _ => hk D⟩

variable {t el : TypeId} {ti tj : TI}

theorem MapE.get (hG : Agree P Γ) (K : Keyed P k) (ht : look Γ t = some ti) (hd : ti.desc = .map k el) (hel : look Γ el = some tj) {z : β} (hz : tj.zero = ev' z) (h : MapE P k ek ev' w m xs) (a : α) (hk : ∃ lit, keyOf P k (ek a) = some lit) :
    (Instr.lookup t (.map (some m)) (ek a) false).run P w = .ok (ev' (aget xs z a)) w := by
  rw [MapE.lookup hG K ht hd hel h a hk false]
  unfold aget
  cases alook xs a with
  | none => simp [hz]
  | some v => rfl

/-- an entry is taken hold of again -/
theorem EntE.entry (hG : Agree P Γ) (K : Keyed P k) (ht : look Γ t = some ti) (hd : ti.desc = .map k el) {a : α} {s : Nat} (h : EntE P k ek ev' w m xs a s) (hk : ∃ lit, keyOf P k (ek a) = some lit) :
    ∃ v w', (Instr.mapEntry t (.map (some m)) (ek a)).run P w = .ok v w' ∧ EntE P k ek ev' w' m xs a s := by
  have hu := (hG.look ht).1
  simp only [hd] at hu
  have hin := h.inj
  have hM := h.mapE
  obtain ⟨lit, hl⟩ := hk
  obtain ⟨es, clock, j, e, v, hb, hm, hst, hks, hj, hbn, hx, hke⟩ := h.h
  have hlt := lt_of_heap hb
  have hc := K.check w false hl
  have hs := K.stays w hl
  rcases K.find w hl es.toList hks with ⟨h1, h2⟩ | ⟨j', e', h1, h2, h3⟩
  · exact absurd hke (h2 e (by simpa using List.mem_of_getElem? (l := es.toList) (by simpa using hj)))
  · have h2' : es[j']? = some e' := by simpa using h2
    have hjj : j' = j := by
      have hkn := hst.2.2
      rw [List.nodup_iff_pairwise_ne, List.pairwise_map] at hkn
      have l1 := (Array.getElem?_eq_some_iff.1 hj)
      have l2 := (Array.getElem?_eq_some_iff.1 h2')
      obtain ⟨l1, g1⟩ := l1
      obtain ⟨l2, g2⟩ := l2
      rcases Nat.lt_trichotomy j' j with hlt' | he | hlt'
      · have := List.pairwise_iff_getElem.1 hkn j' j (by simpa using l2) (by simpa using l1) hlt'
        simp only [Array.getElem_toList, g1, g2] at this
        exact absurd (h3.trans hke.symm) this
      · exact he
      · have := List.pairwise_iff_getElem.1 hkn j j' (by simpa using l1) (by simpa using l2) hlt'
        simp only [Array.getElem_toList, g1, g2] at this
        exact absurd (hke.trans h3.symm) this
    subst hjj
    rw [hj] at h2'
    cases h2'
    have hp := putB_obj (w := w) (o := .map (es.modify j' fun e' => { e' with key := ek a }) clock) hlt
    refine ⟨.tuple #[e.val, goInt e.born], _, ?_, ⟨⟨_, _, j', { e with key := ek a }, v, hp.here, ?_, stamped_modify hst j' _ (fun _ _ => rfl) fun e' _ he' => ?_, ?_, ?_, hbn, hx, rfl⟩, hin⟩⟩
    · simp [Instr.mapEntry, run_underlying hu, MapKept.run_getObj_map hb, hc, h1, hj, h3, hs, MapKept.run_setObj_map _ hb, Result.andThen]
    · rw [modify_set hj, List.map_set, hm]
      have hxs : (xs.map fun p => (ek p.1, ev' p.2))[j']? = some (ek a, ev' v) := by simp [hx]
      have : e.val = ev' v := by
        have := congrArg (fun l => l[j']?) hm
        simp only [List.getElem?_map, Array.getElem?_toList, hj, Option.map_some, hx, Option.some.injEq, Prod.mk.injEq] at this
        exact this.2
      rw [this]
      apply List.ext_getElem?
      intro i
      rw [List.getElem?_set]
      by_cases hij : j' = i
      · subst hij
        rw [if_pos rfl, if_pos (List.getElem?_eq_some_iff.1 hxs).1, hxs]
      · rw [if_neg hij]
    · rw [hj] at he'; cases he'; exact h3.symm
    · intro x hx'
      rw [modify_set hj] at hx'
      rcases List.mem_or_eq_of_mem_set hx' with hx' | rfl
      · exact hks x hx'
      · exact ⟨lit, hl⟩
    · rw [← Array.getElem?_toList, modify_set hj, List.getElem?_set_self (by simpa using (Array.getElem?_eq_some_iff.1 hj).1)]

/-- an entry is taken hold of, in whatever order -/
theorem enr (hG : Agree P Γ) (K : Keyed P k) {z : β} {a : α} {e : Env} {w0 : World} {Dn : World → Prop} {op : Oper} {KK : Value → DP → Prop} {x y : Operand} (ho : op.op = .mapEntry t x y) (hx : ev e x = .map (some m)) (hy : ev e y = ek a)
    (ht : look Γ t = some ti) (hd : ti.desc = .map k el) (hel : look Γ el = some tj) (hz : tj.zero = ev' z) (h : MapE P k ek ev' w0 m xs) (hk : ∃ lit, keyOf P k (ek a) = some lit)
    (hK : ∀ (s : Nat) D, (∀ W, D W → ∃ xs', EntE P k ek ev' W m xs' a s ∧ Ext z a xs xs') → KK (.tuple #[ev' (aget xs z a), .int .i64 s]) D) : Mk (MapR P k ek ev' z m a) w0 Dn (op1 P Γ e op) KK :=
  ⟨Nat, ⟨0⟩, fun s => .tuple #[ev' (aget xs z a), .int .i64 s], fun s W => ∃ xs', EntE P k ek ev' W m xs' a s ∧ Ext z a xs xs', fun s W W' ⟨x1, h1, e1⟩ hr => by
      obtain ⟨x2, h2, e2⟩ := hr.ent x1 s h1
      exact ⟨x2, h2, e1.trans e2⟩, fun W h1 h2 => by
    unfold op1
    rw [ho]
    simp only [isPure]
    rw [hx, hy]
    obtain ⟨x1, hm1, e1⟩ := h1.map xs h
    obtain ⟨W', s, hrun, hent, hsz, hc⟩ := MapE.entry hG K ht hd hel hz hm1 a hk
    have hg : aget x1 z a = aget xs z a := e1.get a
    refine ⟨_, W', hrun, ?_, s, ?_, ?_⟩
    · refine ⟨hc, fun x2 hm2 => ?_, fun x2 s2 hm2 => ?_⟩
      · obtain ⟨W2, s2, hrun2, hent2, _, _⟩ := MapE.entry hG K ht hd hel hz hm2 a hk
        rw [hrun] at hrun2
        simp only [Result.ok.injEq] at hrun2
        rw [← hrun2.2] at hent2
        exact ⟨_, hent2.mapE, .inr rfl⟩
      · obtain ⟨v2, W2, hrun2, hent2⟩ := EntE.entry hG K ht hd hm2 hk
        rw [hrun] at hrun2
        simp only [Result.ok.injEq] at hrun2
        rw [← hrun2.2] at hent2
        exact ⟨_, hent2, .inl rfl⟩
    · show Value.tuple #[ev' (aget x1 z a), goInt s] = _
      rw [hg]; rfl
    · exact ⟨_, hent, e1.trans (.inr rfl)⟩, hK⟩

end
end Go.Au

namespace Go.Au
open Go

/-! ### answers are drawn, never given back -/
theorem ask_drawn {α : Type} : ∀ (a : Ask α) (w : World), w.drawn ≤ (w.ask a).2.drawn
  | .done a, w => Nat.le_refl _
  | .ask what range k, w => by
    unfold World.ask
    simp only
    split
    · exact ask_drawn (k 0) w
    · exact Nat.le_trans (Nat.le_succ _) (ask_drawn (k _) { w with drawn := w.drawn + 1 })
theorem sys_drawn (w : World) (c : Sys) : w.drawn ≤ (w.sys c).2.drawn := by
  unfold World.sys
  have h := ask_drawn (Kernel.perform c w.os) w
  split
  · exact Nat.le_refl _
  · rename_i h2
    rw [h2] at h
    exact h
theorem except_bind {ε α β : Type} {x : Except ε α} {f : α → Except ε β} {b : β} (h : (x >>= f) = .ok b) : ∃ a, x = .ok a ∧ f a = .ok b := by
  cases x with
  | error e => cases h
  | ok a => exact ⟨a, rfl, h⟩
theorem viewStore_drawn {p : Program} {w : World} {a : Addr} {u : TypeId} {k : Addr} {v : Value} {at_ : Bool} {r : World × List Addr} (h : w.viewStore p a u k v at_ = .ok r) : r.1.drawn = w.drawn := by
  unfold World.viewStore at h
  simp only [bind, Except.bind, pure, Except.pure, throw, throwThe, MonadExceptOf.throw] at h
  repeat' split at h
  all_goals first
    | (injection h with h; rw [← h]; done)
    | (cases h; done)
theorem farStore_drawn {p : Program} {w : World} {a : Addr} {v : Value} {b : Bool} {r : World × List Addr} (h : w.farStore p a v b = .ok r) : r.1.drawn = w.drawn := by
  unfold World.farStore at h
  split at h
  · split at h
    · rename_i h2
      injection h with h
      subst h
      exact viewStore_drawn h2
    · cases h
  · cases h
theorem run_drawn {α : Type} {p : Program} : ∀ (s : Sem α) {w w' : World} {v : α}, s.run p w = .ok v w' → w.drawn ≤ w'.drawn
  | .pure a, w, w', v, h => by
    simp only [Sem.run] at h
    injection h with _ h; subst h; exact Nat.le_refl _
  | .load m a k, w, w', v, h => by
    simp only [Sem.run] at h
    split at h
    · exact run_drawn (k _) h
    · split at h
      · exact run_drawn (k _) h
      · cases h
  | .store m a x k, w, w', v, h => by
    cases x
    case agg => simp only [Sem.run] at h; cases h
    case tuple => simp only [Sem.run] at h; cases h
    all_goals
      simp only [Sem.run] at h
      split at h
      · split at h
        · cases h
        · exact run_drawn k (w := w.setCell a _) h
      · split at h
        · rename_i h2
          exact Nat.le_trans (Nat.le_of_eq (farStore_drawn h2).symm) (run_drawn k h)
        · cases h
  | .new o k, w, w', v, h => run_drawn (k w.heap.size) (w := { w with heap := w.heap.push o }) h
  | .shape r k, w, w', v, h => run_drawn (k _) h
  | .freeze a n k, w, w', v, h => by
    have := run_drawn k (w := w.freeze a n) h
    have h2 : (w.freeze a n).drawn = w.drawn := by unfold World.freeze; split <;> rfl
    omega
  | .frozen a k, w, w', v, h => run_drawn (k _) h
  | .getObj r k, w, w', v, h => by
    simp only [Sem.run] at h
    split at h
    · cases h
    · exact run_drawn (k _) h
    · cases h
  | .setObj r o k, w, w', v, h => by
    simp only [Sem.run] at h
    split at h
    · cases h
    · exact run_drawn k (w := { w with heap := w.heap.setIfInBounds r o }) h
    · cases h
  | .choose q k, w, w', v, h => by
    simp only [Sem.run] at h
    split at h
    · exact run_drawn (k _) h
    · exact Nat.le_trans (Nat.le_succ _) (run_drawn (k _) (w := { w with drawn := w.drawn + 1 }) h)
  | .sys c k, w, w', v, h => Nat.le_trans (sys_drawn w c) (run_drawn (k _) h)
  | .program k, w, w', v, h => run_drawn (k _) h
  | .mark m k, w, w', v, h => run_drawn k h
  | .halt x, w, w', v, h => by simp only [Sem.run] at h; cases h
end Go.Au

namespace Go.Au
open Go Go.RowKit Go.MapKept
open Go.Maps (Keyed)

section
variable {P : Program} {Γ : List (Nat × TI)} {w w' : World} {base size n m c b o : Nat} {v : Value} {xs news : List Value} {t el : TypeId} {ti tj : TI}

theorem run_app (hG : Agree P Γ) (hl : look Γ t = some ti) (hd : ti.desc = .slice el) (hj : look Γ el = some tj) (hsz : tj.size = size) (hpos : 0 < size) (hown : w.ownsRow base el size v n xs)
    (hn : news.length = m * size) (hr : w.rangeAt b o news) (h1 : news.all (·.oneCell') = true) (h63 : n + m ≤ maxLen) (hby : (n + m) * tj.bytes ≤ 140737488355328) (hb : base ≤ w.heap.size) (ty : TypeId) :
    ∃ v' w', (Builtin.append_ #[t, t] ty #[v, .slice (some ⟨b, o, none⟩) m c]).run P w = .ok v' w' ∧ w'.ownsRow base el size v' (n + m) (xs ++ news) ∧ w.grownBy w' v.ownBlock := by
  have hok := hG.look hj
  obtain ⟨i, hi, hz, hs, hbt⟩ := hok.info
  have hu := (hG.look hl).1
  simp only [hd] at hu
  obtain ⟨v', w', h, h2, h3, _⟩ := run_append_own (P := P) w base t ty el i tj.zero size tj.bytes hu hi hz (hs.trans hsz) hbt (hok.2.2.trans hsz) hpos v n xs hown ⟨b, o, none⟩ m c news hn (fun j u hu => by rw [Addr.add_mid]; exact hr j u hu) (fun u hu => by simpa using List.all_eq_true.1 h1 u hu) h63 hby hb
  exact ⟨v', w', h, h2, h3⟩

theorem grown_chg {row : Option Nat} (hd : w.drawn ≤ w'.drawn) (h : w.grownBy w' row) : Chg (fun k => some k = row) w w' := ⟨h.os, h.tape, hd, h.output, h.size, fun k hk hs => h.block k hk hs⟩

/-- an append to a row of one's own -/
theorem ap (hG : Agree P Γ) {ρ : Operand → Value} {op : Oper} {s x : Operand} {K : Value → World → Prop} (ho : op.op = .call { callee := .builtin .append, args := #[s, x], argTypes := #[t, t] }) (hs : ρ s = v) (hx : ρ x = .slice (some ⟨b, o, none⟩) m c)
    (hl : look Γ t = some ti) (hd : ti.desc = .slice el) (hj : look Γ el = some tj) (hsz : tj.size = size) (hpos : 0 < size) (hown : w.ownsRow base el size v n xs)
    (hn : news.length = m * size) (hr : w.rangeAt b o news) (h1 : news.all (·.oneCell') = true) (h63 : n + m ≤ maxLen) (hby : (n + m) * tj.bytes ≤ 140737488355328) (hb : base ≤ w.heap.size)
    (hk : ∀ v' w', w'.ownsRow base el size v' (n + m) (xs ++ news) → Chg (fun k => some k = v.ownBlock) w w' → K v' w') : Raw P ρ op w K := by
  obtain ⟨v', w', hrun, h2, h3⟩ := run_app (c := c) hG hl hd hj hsz hpos hown hn hr h1 h63 hby hb op.type
  refine ⟨v', w', ?_, hk v' w' h2 (grown_chg (run_drawn _ hrun) h3)⟩
  unfold execOp
  simp only [ho, resolve, invoke, builtin, Sem.run_bind, Sem.run_pure, Result.andThen_ok, List.map_toArray, List.map_cons, List.map_nil, hs, hx, hrun]

def app1 (w : World) (v : Value) : Option Obj := v.ownBlock.bind fun g => w.heap[g]?
def lay2 (k : Nat) (news cur : List Value) : List Value := cur.take k ++ news ++ cur.drop (k + news.length)
def app2 (k : Nat) (news : List Value) : Option Obj → Option Obj
  | some (.cells cur e fr) => some (.cells (if k + news.length ≤ cur.size then (lay2 k news cur.toList).toArray else cur) e fr)
  | o => o
theorem lay2_lay2 {k : Nat} {news cur : List Value} (h : k + news.length ≤ cur.length) : lay2 k news (lay2 k news cur) = lay2 k news cur := by
  unfold lay2
  have h1 : (cur.take k ++ news ++ cur.drop (k + news.length)).take k = cur.take k := by
    rw [List.append_assoc, List.take_append_of_le_length (by simp; omega), List.take_take, Nat.min_self]
  have h2 : (cur.take k ++ news ++ cur.drop (k + news.length)).drop (k + news.length) = cur.drop (k + news.length) := by
    rw [List.drop_append, List.drop_of_length_le (by simp; omega), List.nil_append]
    simp only [List.length_append, List.length_take, List.drop_drop]
    rw [Nat.min_eq_left (by omega)]
    congr 1
    omega
  rw [h1, h2]

/-- beside one append to a row -/
structure AppR (w0 : World) (v : Value) (k : Nat) (news : List Value) (W W' : World) : Prop where
  chg : Chg (fun g => some g = v.ownBlock) W W'
  row : ∀ g, v.ownBlock = some g → g < W.heap.size → W'.heap[g]? = W.heap[g]? ∨ (W.heap[g]? = app1 w0 v ∧ W'.heap[g]? = app2 k news (app1 w0 v))

theorem preAppR (w0 : World) (v : Value) (k : Nat) (news : List Value) : Pre (AppR w0 v k news) :=
  ⟨fun h => ⟨h.mono fun _ hf => hf.elim, fun g _ hl => .inl (h.block g hl id)⟩, fun h g => ⟨h.chg.trans g.chg, fun x hx hl => by
    rcases h.row x hx hl with a | ⟨a, a'⟩ <;> rcases g.row x hx (Nat.lt_of_lt_of_le hl h.chg.size) with c | ⟨c, c'⟩
    · exact .inl (c.trans a)
    · exact .inr ⟨a ▸ c, c'⟩
    · exact .inr ⟨a, c.trans a'⟩
    · exact .inr ⟨a, c'⟩⟩⟩

theorem setRow_chg {g : Nat} {cur c' : Array Value} {e : TypeId} (hg : w.heap[g]? = some (.cells cur e (0, 0))) : Chg (fun k => k = g) w (w.setRow g c') ∧ (w.setRow g c').heap[g]? = some (.cells c' e (0, 0)) :=
  ⟨⟨rfl, rfl, Nat.le_refl _, rfl, by simp, fun k _ hk => setRow_other w g k _ hk⟩, setRow_heap w g cur c' e _ hg⟩

theorem appR_run (hG : Agree P Γ) (hl : look Γ t = some ti) (hd : ti.desc = .slice el) (hj : look Γ el = some tj) (hsz : tj.size = size) (hpos : 0 < size) {w0 : World} (hown : w0.ownsRow base el size v n xs)
    (hn : news.length = m * size) (hWs : w0.heap.size ≤ w.heap.size) (hWr : ∀ g, v.ownBlock = some g → g < w0.heap.size → w.heap[g]? = w0.heap[g]? ∨ (w0.heap[g]? = app1 w0 v ∧ w.heap[g]? = app2 (n * size) news (app1 w0 v))) (hr : w.rangeAt b o news) (h1 : news.all (·.oneCell') = true) (h63 : n + m ≤ maxLen) (hby : (n + m) * tj.bytes ≤ 140737488355328) (hb : base ≤ w0.heap.size) (ty : TypeId) :
    ∃ v' w', (Builtin.append_ #[t, t] ty #[v, .slice (some ⟨b, o, none⟩) m c]).run P w = .ok v' w' ∧ AppR w0 v (n * size) news w w' ∧ w'.ownsRow base el size v' (n + m) (xs ++ news) ∧
      ∀ g, v'.ownBlock = some g → (v.ownBlock = some g ∧ w'.heap[g]? = app2 (n * size) news (app1 w0 v)) ∨ w0.heap.size ≤ g := by
  have hbw : base ≤ w.heap.size := Nat.le_trans hb hWs
  obtain ⟨hlen, hc⟩ := hown
  rcases hc with ⟨rfl, rfl⟩ | ⟨g, cap, cur, rfl, hbg, hg, hnc, hcm, hcs, htake⟩
  · have hx : xs = [] := List.eq_nil_of_length_eq_zero (by simpa using hlen)
    subst hx
    obtain ⟨v', w', hrun, h2, h3⟩ := run_app (w := w) (base := w.heap.size) (c := c) hG hl hd hj hsz hpos (World.ownsRow_nil w _ el size) hn hr h1 h63 hby (Nat.le_refl _) ty
    refine ⟨v', w', hrun, (preAppR _ _ _ _).kp ((grown_chg (run_drawn _ hrun) h3).mono fun k hk => by simp [Value.ownBlock] at hk), ?_, fun g hg => .inr ?_⟩
    · obtain ⟨q1, q2⟩ := h2
      exact ⟨q1, q2.imp id fun ⟨g, cap, cur, a1, a2, a3⟩ => ⟨g, cap, cur, a1, Nat.le_trans hbw a2, a3⟩⟩
    · exact Nat.le_trans hWs (h2.lt g hg).1
  · have hglt : g < w0.heap.size := (Array.getElem?_eq_some_iff.1 hg).1
    have ha1 : app1 w0 (.slice (some ⟨g, 0, none⟩) n cap) = some (.cells cur el (0, 0)) := hg
    have hfit : n * size + news.length ≤ cur.size ↔ n + m ≤ cap := by
      rw [hn, hcs, ← Nat.add_mul]
      exact Nat.mul_le_mul_right_iff hpos
    obtain ⟨cur', hg', hsz', hcur'⟩ : ∃ cur', w.heap[g]? = some (.cells cur' el (0, 0)) ∧ cur'.size = cur.size ∧ (cur' = cur ∨ (n + m ≤ cap ∧ cur' = (lay2 (n * size) news cur.toList).toArray)) := by
      rcases hWr g rfl hglt with h | ⟨_, h⟩
      · exact ⟨cur, h.trans hg, rfl, .inl rfl⟩
      · rw [ha1] at h
        simp only [app2] at h
        by_cases hf : n * size + news.length ≤ cur.size
        · rw [if_pos hf] at h
          refine ⟨_, h, ?_, .inr ⟨hfit.1 hf, rfl⟩⟩
          simp [lay2]
          omega
        · rw [if_neg hf] at h
          exact ⟨cur, h, rfl, .inl rfl⟩
    have htk : cur'.toList.take (n * size) = xs := by
      rcases hcur' with rfl | ⟨hf, rfl⟩
      · exact htake
      · have := hfit.2 hf
        rw [← htake]
        show (lay2 (n * size) news cur.toList).take (n * size) = _
        unfold lay2
        rw [List.append_assoc, List.take_append_of_le_length (by simp; omega), List.take_take, Nat.min_self]
    have hownw : w.ownsRow base el size (.slice (some ⟨g, 0, none⟩) n cap) n xs := ⟨hlen, .inr ⟨g, cap, cur', rfl, hbg, hg', hnc, hcm, by rw [hsz', hcs], htk⟩⟩
    obtain ⟨v', w', hrun, h2, h3⟩ := run_app (w := w) (c := c) hG hl hd hj hsz hpos hownw hn hr h1 h63 hby hbw ty
    have hu := (hG.look hl).1
    simp only [hd] at hu
    obtain ⟨i, hi, hz, hs, hbt⟩ := (hG.look hj).info
    by_cases hroom : n + m ≤ cap
    · have hrun2 := run_append_room (P := P) w t ty el i hu hi g n cap cur' hg' ⟨b, o, none⟩ m c news (by rw [hs, hsz]; exact hn) (fun j u hu => by rw [Addr.add_mid]; exact hr j u hu) (fun u hu => by simpa using List.all_eq_true.1 h1 u hu) hroom (by rw [hs, hsz, hsz']; exact hfit.2 hroom)
      rw [hrun] at hrun2
      simp only [Result.ok.injEq] at hrun2
      obtain ⟨rfl, rfl⟩ := hrun2
      have hfc := hfit.2 hroom
      rw [hs, hsz] at *
      obtain ⟨c1, c2⟩ := setRow_chg (c' := (cur'.toList.take (n * size) ++ news ++ cur'.toList.drop (n * size + news.length)).toArray) hg'
      have hnew : some (Obj.cells (cur'.toList.take (n * size) ++ news ++ cur'.toList.drop (n * size + news.length)).toArray el (0, 0)) = app2 (n * size) news (app1 w0 (.slice (some ⟨g, 0, none⟩) n cap)) := by
        rw [ha1]
        simp only [app2]
        rw [if_pos hfc]
        rcases hcur' with rfl | ⟨_, rfl⟩
        · rfl
        · congr 2
          exact congrArg List.toArray (lay2_lay2 (by simpa using hfc))
      refine ⟨_, _, hrun, ⟨c1.mono fun k hk => by simp [Value.ownBlock, hk], fun g2 hg2 hl2 => ?_⟩, h2, fun g2 hg2 => .inl ⟨hg2, ?_⟩⟩
      · simp only [Value.ownBlock, Option.some.injEq] at hg2
        subst hg2
        rcases hcur' with rfl | ⟨_, hcc⟩
        · exact .inr ⟨hg'.trans ha1.symm, c2.trans hnew⟩
        · left
          rw [c2, hnew, ha1, hg', hcc]
          simp only [app2]
          rw [if_pos hfc]
      · simp only [Value.ownBlock, Option.some.injEq] at hg2
        subst hg2
        rw [c2, hnew]
    · have hrun2 := run_append_grow (P := P) w t ty el i tj.zero hu hi hz ⟨g, 0, none⟩ n cap xs (by rw [hs, hsz]; exact hlen) (hownw.cells (g := g) rfl) ⟨b, o, none⟩ m c news (by rw [hs, hsz]; exact hn) (fun j u hu => by rw [Addr.add_mid]; exact hr j u hu) (by omega) (by simp only [maxLen] at h63; omega) (growslice_fits (by simp only [maxLen] at h63; omega) (by rw [hbt]; exact hby))
      rw [hrun] at hrun2
      simp only [Result.ok.injEq] at hrun2
      obtain ⟨rfl, rfl⟩ := hrun2
      refine ⟨_, _, hrun, (preAppR _ _ _ _).kp ?_, h2, fun g2 hg2 => .inr ?_⟩
      · exact (Chg.refl _ w).drew.trans (Chg.alloc _ _ _)
      · simp only [Value.ownBlock, Option.some.injEq] at hg2
        subst hg2
        exact hWs

/-- an append in whatever order -/
theorem apr (hG : Agree P Γ) {w0 : World} {e : Env} {Dn : World → Prop} {op : Oper} {s x : Operand} {K : Value → DP → Prop} (ho : op.op = .call { callee := .builtin .append, args := #[s, x], argTypes := #[t, t] }) (hs : ev e s = v) (hx : ev e x = .slice (some ⟨b, o, none⟩) m c)
    (hl : look Γ t = some ti) (hd : ti.desc = .slice el) (hj : look Γ el = some tj) (hsz : tj.size = size) (hpos : 0 < size) (hown : w0.ownsRow base el size v n xs)
    (hn : news.length = m * size) (hr : ∀ W, AppR w0 v (n * size) news w0 W → Dn W → W.rangeAt b o news) (h1 : news.all (·.oneCell') = true) (h63 : n + m ≤ maxLen) (hby : (n + m) * tj.bytes ≤ 140737488355328) (hb : base ≤ w0.heap.size)
    (hk : ∀ v' D, (∀ W, D W → W.ownsRow base el size v' (n + m) (xs ++ news) ∧ ∀ g, v'.ownBlock = some g → v.ownBlock = some g ∨ w0.heap.size ≤ g) → K v' D) : Mk (AppR w0 v (n * size) news) w0 Dn (op1 P Γ e op) K :=
  ⟨Value, ⟨undef⟩, id, fun v' W => W.ownsRow base el size v' (n + m) (xs ++ news) ∧ ∀ g, v'.ownBlock = some g → (v.ownBlock = some g ∧ W.heap[g]? = app2 (n * size) news (app1 w0 v)) ∨ w0.heap.size ≤ g, fun v' W W' ⟨q1, q2⟩ hR => by
      have key : ∀ g, v'.ownBlock = some g → W'.heap[g]? = W.heap[g]? := fun g hg => by
        have hlt := (q1.lt g hg).2
        rcases q2 g hg with ⟨a1, a2⟩ | a1
        · rcases hR.row g a1 hlt with h | ⟨_, h⟩
          · exact h
          · rw [h, a2]
        · exact hR.chg.block g hlt fun hc => by
            have := hown.lt g hc.symm
            omega
      refine ⟨?_, fun g hg => (q2 g hg).imp (fun ⟨a1, a2⟩ => ⟨a1, (key g hg).trans a2⟩) id⟩
      obtain ⟨p1, p2⟩ := q1
      refine ⟨p1, p2.imp id fun ⟨g, cap, cur, a1, a2, a3, a4⟩ => ⟨g, cap, cur, a1, a2, ?_, a4⟩⟩
      rw [key g (by rw [a1]; rfl)]
      exact a3, fun W h1' h2' => by
    unfold op1
    rw [ho]
    simp only [isPure]
    obtain ⟨v', W', hrun, q1, q2, q3⟩ := appR_run (c := c) hG hl hd hj hsz hpos hown hn h1'.chg.size h1'.row (hr W h1' h2') h1 h63 hby hb op.type
    refine ⟨v', W', ?_, q1, v', rfl, q2, q3⟩
    unfold execOp
    simp only [ho, resolve, invoke, builtin, Sem.run_bind, Sem.run_pure, Result.andThen_ok, List.map_toArray, List.map_cons, List.map_nil, hs, hx, hrun], fun v' D hD => hk v' D fun W hW => ⟨(hD W hW).1, fun g hg => ((hD W hW).2 g hg).imp (·.1) id⟩⟩

end
end Go.Au

namespace Go.Au
open Go Go.RowKit Go.MapKept
open Go.Maps (Keyed)

section
variable {P : Program} {Γ : List (Nat × TI)} {w w' : World} {base size n m c b o : Nat} {v : Value} {xs news : List Value} {t el : TypeId} {ti tj : TI}

/-- a relation that bears an append -/
structure BearsApp (S : World → World → Prop) (w0 : World) (v : Value) (k : Nat) (news : List Value) : Prop where
  pre : Pre S
  row : ∀ W W', S W W' → ∀ g, v.ownBlock = some g → g < W.heap.size → W'.heap[g]? = W.heap[g]? ∨ (W.heap[g]? = app1 w0 v ∧ W'.heap[g]? = app2 k news (app1 w0 v))
  new : ∀ W W' g o, S W W' → w0.heap.size ≤ g → W.heap[g]? = some o → W'.heap[g]? = some o
  size : ∀ W W', S W W' → W.heap.size ≤ W'.heap.size
  of : ∀ W W', S w0 W → AppR w0 v k news W W' → S W W'

theorem aprS (hG : Agree P Γ) {S : World → World → Prop} {w0 : World} {e : Env} {Dn : World → Prop} {op : Oper} {s x : Operand} {K : Value → DP → Prop} (hS : BearsApp S w0 v (n * size) news) (ho : op.op = .call { callee := .builtin .append, args := #[s, x], argTypes := #[t, t] }) (hs : ev e s = v) (hx : ev e x = .slice (some ⟨b, o, none⟩) m c)
    (hl : look Γ t = some ti) (hd : ti.desc = .slice el) (hj : look Γ el = some tj) (hsz : tj.size = size) (hpos : 0 < size) (hown : w0.ownsRow base el size v n xs)
    (hn : news.length = m * size) (hr : ∀ W, S w0 W → Dn W → W.rangeAt b o news) (h1 : news.all (·.oneCell') = true) (h63 : n + m ≤ maxLen) (hby : (n + m) * tj.bytes ≤ 140737488355328) (hb : base ≤ w0.heap.size)
    (hk : ∀ v' D, (∀ W, D W → W.ownsRow base el size v' (n + m) (xs ++ news) ∧ ∀ g, v'.ownBlock = some g → v.ownBlock = some g ∨ w0.heap.size ≤ g) → K v' D) : Mk S w0 Dn (op1 P Γ e op) K :=
  ⟨Value, ⟨undef⟩, id, fun v' W => W.ownsRow base el size v' (n + m) (xs ++ news) ∧ ∀ g, v'.ownBlock = some g → (v.ownBlock = some g ∧ W.heap[g]? = app2 (n * size) news (app1 w0 v)) ∨ w0.heap.size ≤ g, fun v' W W' ⟨q1, q2⟩ hR => by
      have key : ∀ g, v'.ownBlock = some g → W'.heap[g]? = W.heap[g]? := fun g hg => by
        have hlt := (q1.lt g hg).2
        rcases q2 g hg with ⟨a1, a2⟩ | a1
        · rcases hS.row _ _ hR g a1 hlt with h | ⟨_, h⟩
          · exact h
          · rw [h, a2]
        · obtain ⟨ob, hob⟩ : ∃ ob, W.heap[g]? = some ob := ⟨_, Array.getElem?_eq_getElem hlt⟩
          rw [hS.new _ _ _ _ hR a1 hob, hob]
      refine ⟨?_, fun g hg => (q2 g hg).imp (fun ⟨a1, a2⟩ => ⟨a1, (key g hg).trans a2⟩) id⟩
      obtain ⟨p1, p2⟩ := q1
      refine ⟨p1, p2.imp id fun ⟨g, cap, cur, a1, a2, a3, a4⟩ => ⟨g, cap, cur, a1, a2, ?_, a4⟩⟩
      rw [key g (by rw [a1]; rfl)]
      exact a3, fun W h1' h2' => by
    unfold op1
    rw [ho]
    simp only [isPure]
    obtain ⟨v', W', hrun, q1, q2, q3⟩ := appR_run (c := c) hG hl hd hj hsz hpos hown hn (hS.size _ _ h1') (hS.row _ _ h1') (hr W h1' h2') h1 h63 hby hb op.type
    refine ⟨v', W', ?_, hS.of _ _ h1' q1, v', rfl, q2, q3⟩
    unfold execOp
    simp only [ho, resolve, invoke, builtin, Sem.run_bind, Sem.run_pure, Result.andThen_ok, List.map_toArray, List.map_cons, List.map_nil, hs, hx, hrun], fun v' D hD => hk v' D fun W hW => ⟨(hD W hW).1, fun g hg => ((hD W hW).2 g hg).imp (·.1) id⟩⟩

theorem bearsAppR {w0 : World} {k : Nat} (hv : ∀ g, v.ownBlock = some g → g < w0.heap.size) : BearsApp (AppR w0 v k news) w0 v k news :=
  ⟨preAppR _ _ _ _, fun _ _ h => h.row, fun _ _ g o h hg ho => h.chg.heap ho fun hc => by have := hv g hc.symm; omega, fun _ _ h => h.chg.size, fun _ _ _ h => h⟩
end

section
variable {α β : Type} [DecidableEq α] {P : Program} {Γ : List (Nat × TI)} {k : TypeId} {ek : α → Value} {ev' : β → Value} {w w' : World} {m : Nat} {xs : List (α × β)}

theorem MapE.ne {b : Nat} {t : TypeId} {cs : List Value} (h : MapE P k ek ev' w m xs) (ho : Own w b t cs) : b ≠ m := by
  rintro rfl
  obtain ⟨es, clock, hb, _⟩ := h.h
  rw [show w.heap[b]? = _ from ho] at hb
  cases hb
/-- a relation that bears a change of one entry -/
structure BearsMap (P : Program) (k : TypeId) (ek : α → Value) (ev' : β → Value) (z : β) (m : Nat) (a : α) (S : World → World → Prop) (w0 : World) : Prop where
  pre : Pre S
  map : ∀ W W', S W W' → ∀ xs, MapE P k ek ev' W m xs → ∃ xs', MapE P k ek ev' W' m xs' ∧ Ext z a xs xs'
  ent : ∀ W W', S W W' → ∀ xs s, EntE P k ek ev' W m xs a s → ∃ xs', EntE P k ek ev' W' m xs' a s ∧ Ext z a xs xs'
  of : ∀ W W', S w0 W → MapR P k ek ev' z m a W W' → S W W'

variable {t el : TypeId} {ti tj : TI}

theorem entry_mapR (hG : Agree P Γ) (K : Keyed P k) (ht : look Γ t = some ti) (hd : ti.desc = .map k el) (hel : look Γ el = some tj) {z : β} (hz : tj.zero = ev' z) {a : α} (hm1 : MapE P k ek ev' w m xs) (hk : ∃ lit, keyOf P k (ek a) = some lit) :
    ∃ (W' : World) (s : Nat), (Instr.mapEntry t (.map (some m)) (ek a)).run P w = .ok (.tuple #[ev' (aget xs z a), goInt s]) W' ∧ EntE P k ek ev' W' m (aput xs a (aget xs z a)) a s ∧ MapR P k ek ev' z m a w W' := by
  obtain ⟨W', s, hrun, hent, hsz, hc⟩ := MapE.entry hG K ht hd hel hz hm1 a hk
  refine ⟨W', s, hrun, hent, hc, fun x2 hm2 => ?_, fun x2 s2 hm2 => ?_⟩
  · obtain ⟨W2, s2, hrun2, hent2, _, _⟩ := MapE.entry hG K ht hd hel hz hm2 a hk
    rw [hrun] at hrun2
    simp only [Result.ok.injEq] at hrun2
    rw [← hrun2.2] at hent2
    exact ⟨_, hent2.mapE, .inr rfl⟩
  · obtain ⟨v2, W2, hrun2, hent2⟩ := EntE.entry hG K ht hd hm2 hk
    rw [hrun] at hrun2
    simp only [Result.ok.injEq] at hrun2
    rw [← hrun2.2] at hent2
    exact ⟨_, hent2, .inl rfl⟩

/-- an entry is taken hold of, in whatever order -/
theorem enrS (hG : Agree P Γ) (K : Keyed P k) {S : World → World → Prop} {z : β} {a : α} {e : Env} {w0 : World} {Dn : World → Prop} {op : Oper} {KK : Value → DP → Prop} {x y : Operand} (hS : BearsMap P k ek ev' z m a S w0) (ho : op.op = .mapEntry t x y) (hx : ev e x = .map (some m)) (hy : ev e y = ek a)
    (ht : look Γ t = some ti) (hd : ti.desc = .map k el) (hel : look Γ el = some tj) (hz : tj.zero = ev' z) (h : MapE P k ek ev' w0 m xs) (hk : ∃ lit, keyOf P k (ek a) = some lit)
    (hK : ∀ (s : Nat) D, (∀ W, D W → ∃ xs', EntE P k ek ev' W m xs' a s ∧ Ext z a xs xs') → KK (.tuple #[ev' (aget xs z a), .int .i64 s]) D) : Mk S w0 Dn (op1 P Γ e op) KK :=
  ⟨Nat, ⟨0⟩, fun s => .tuple #[ev' (aget xs z a), .int .i64 s], fun s W => ∃ xs', EntE P k ek ev' W m xs' a s ∧ Ext z a xs xs', fun s W W' ⟨x1, h1, e1⟩ hr => by
      obtain ⟨x2, h2, e2⟩ := hS.ent _ _ hr x1 s h1
      exact ⟨x2, h2, e1.trans e2⟩, fun W h1 h2 => by
    unfold op1
    rw [ho]
    simp only [isPure]
    rw [hx, hy]
    obtain ⟨x1, hm1, e1⟩ := hS.map _ _ h1 xs h
    obtain ⟨W', s, hrun, hent, hc⟩ := entry_mapR hG K ht hd hel hz hm1 hk
    have hg : aget x1 z a = aget xs z a := e1.get a
    refine ⟨_, W', hrun, hS.of _ _ h1 hc, s, ?_, ?_⟩
    · show Value.tuple #[ev' (aget x1 z a), goInt s] = _
      rw [hg]; rfl
    · exact ⟨_, hent, e1.trans (.inr rfl)⟩, hK⟩

/-- beside m[a] = append(m[a], ..) -/
structure MapAppR (P : Program) (k : TypeId) (ek : α → Value) (ev' : β → Value) (z : β) (m : Nat) (a : α) (w0 : World) (v : Value) (kk : Nat) (news : List Value) (W W' : World) : Prop where
  chg : Chg (fun b => b = m ∨ some b = v.ownBlock) W W'
  map : ∀ xs, MapE P k ek ev' W m xs → ∃ xs', MapE P k ek ev' W' m xs' ∧ Ext z a xs xs'
  ent : ∀ xs s, EntE P k ek ev' W m xs a s → ∃ xs', EntE P k ek ev' W' m xs' a s ∧ Ext z a xs xs'
  row : ∀ g, v.ownBlock = some g → g < W.heap.size → W'.heap[g]? = W.heap[g]? ∨ (W.heap[g]? = app1 w0 v ∧ W'.heap[g]? = app2 kk news (app1 w0 v))

theorem preMapAppR (P : Program) (k : TypeId) (ek : α → Value) (ev' : β → Value) (z : β) (m : Nat) (a : α) (w0 : World) (v : Value) (kk : Nat) (news : List Value) : Pre (MapAppR P k ek ev' z m a w0 v kk news) :=
  ⟨fun h => ⟨h.mono fun _ hf => hf.elim, fun xs hx => ⟨xs, hx.chg h id, .inl rfl⟩, fun xs s hx => ⟨xs, hx.chg h id, .inl rfl⟩, fun g _ hl => .inl (h.block g hl id)⟩,
   fun h g => ⟨h.chg.trans g.chg, fun xs hx => by
      obtain ⟨x1, h1, e1⟩ := h.map xs hx
      obtain ⟨x2, h2, e2⟩ := g.map x1 h1
      exact ⟨x2, h2, e1.trans e2⟩, fun xs s hx => by
      obtain ⟨x1, h1, e1⟩ := h.ent xs s hx
      obtain ⟨x2, h2, e2⟩ := g.ent x1 s h1
      exact ⟨x2, h2, e1.trans e2⟩, fun x hx hl => by
    rcases h.row x hx hl with a | ⟨a, a'⟩ <;> rcases g.row x hx (Nat.lt_of_lt_of_le hl h.chg.size) with c | ⟨c, c'⟩
    · exact .inl (c.trans a)
    · exact .inr ⟨a ▸ c, c'⟩
    · exact .inr ⟨a, c.trans a'⟩
    · exact .inr ⟨a, c'⟩⟩⟩

theorem MapAppR.bearsMap {z : β} {a : α} {w0 : World} {v : Value} {kk : Nat} {news : List Value} (hm : m < w0.heap.size) (hne : v.ownBlock ≠ some m) : BearsMap P k ek ev' z m a (MapAppR P k ek ev' z m a w0 v kk news) w0 :=
  ⟨preMapAppR _ _ _ _ _ _ _ _ _ _ _, fun _ _ h => h.map, fun _ _ h => h.ent, fun W W' h0 h => ⟨h.chg.mono fun _ => .inl, h.map, h.ent, fun g hg hl => .inl (h.chg.block g hl fun hc => hne (hg.trans (by rw [hc])))⟩⟩
theorem MapAppR.bearsApp {z : β} {a : α} {w0 : World} {v : Value} {kk : Nat} {news : List Value} (hm : m < w0.heap.size) (hne : v.ownBlock ≠ some m) (hv : ∀ g, v.ownBlock = some g → g < w0.heap.size) : BearsApp (MapAppR P k ek ev' z m a w0 v kk news) w0 v kk news :=
  ⟨preMapAppR _ _ _ _ _ _ _ _ _ _ _, fun _ _ h => h.row, fun _ _ g o h hg ho => h.chg.heap ho fun hc => hc.elim (fun hc => by omega) fun hc => by have := hv g hc.symm; omega, fun _ _ h => h.chg.size,
    fun W W' h0 h => ⟨h.chg.mono fun _ => .inr, fun xs hx => ⟨xs, hx.chg h.chg fun hc => hne hc.symm, .inl rfl⟩, fun xs s hx => ⟨xs, hx.chg h.chg fun hc => hne hc.symm, .inl rfl⟩, h.row⟩⟩
end

/-! ### rows of one's own, no two in one block -/
structure Bag (w : World) (base : Nat) (el : TypeId) (size : Nat) (L : List (Value × List Value)) : Prop where
  own : ∀ x ∈ L, ∃ n, w.ownsRow base el size x.1 n x.2
  sep : L.Pairwise fun x y => ∀ b, x.1.ownBlock = some b → y.1.ownBlock ≠ some b

section
variable {w w' : World} {base size : Nat} {el : TypeId} {L : List (Value × List Value)} {S : Nat → Prop}

theorem ownsRow_chg {v : Value} {n : Nat} {xs : List Value} (h : w.ownsRow base el size v n xs) (hc : Chg S w w') (hs : ∀ b, v.ownBlock = some b → ¬ S b) : w'.ownsRow base el size v n xs := by
  refine ⟨h.1, h.2.imp id fun ⟨g, cap, cur, a1, a2, a3, a4⟩ => ⟨g, cap, cur, a1, a2, hc.heap a3 (hs g (by rw [a1]; rfl)), a4⟩⟩
theorem ownsRow_n {v : Value} {n n' : Nat} {xs xs' : List Value} (h : w.ownsRow base el size v n xs) (h' : w.ownsRow base el size v n' xs') : n = n' := by
  rcases h.2 with ⟨rfl, rfl⟩ | ⟨g, cap, cur, rfl, _⟩ <;> rcases h'.2 with ⟨h2, rfl⟩ | ⟨g', cap', cur', h2, _⟩ <;> simp at h2 <;> first | rfl | exact h2.2.1
theorem ownsRow_low {v : Value} {n base' : Nat} {xs : List Value} (h : w.ownsRow base el size v n xs) (hb : base' ≤ base) : w.ownsRow base' el size v n xs :=
  ⟨h.1, h.2.imp id fun ⟨g, cap, cur, a1, a2, a3⟩ => ⟨g, cap, cur, a1, Nat.le_trans hb a2, a3⟩⟩
/-- another kind of block is none of these -/
theorem ownsRow_ne {v : Value} {n : Nat} {xs : List Value} (h : w.ownsRow base el size v n xs) {b : Nat} {o : Obj} (ho : w.heap[b]? = some o) (hk : ∀ cs fr, o ≠ .cells cs el fr) : v.ownBlock ≠ some b := by
  rcases h.2 with ⟨rfl, _⟩ | ⟨g, cap, cur, rfl, a2, a3, _⟩
  · simp [Value.ownBlock]
  · intro he
    simp only [Value.ownBlock, Option.some.injEq] at he
    subst he
    rw [ho] at a3
    exact hk _ _ (Option.some.inj a3)

theorem Chg.newT {w0 w1 w2 : World} {S T : Nat → Prop} (h : Chg S w0 w1) (k : Chg T w1 w2) (hT : ∀ i, T i → S i ∨ w0.heap.size ≤ i) : Chg S w0 w2 :=
  ⟨k.os.trans h.os, k.tape.trans h.tape, Nat.le_trans h.drawn k.drawn, k.output.trans h.output, Nat.le_trans h.size k.size, fun i hi hs => (k.block i (Nat.lt_of_lt_of_le hi h.size) (fun ht => by rcases hT i ht with h1 | h1; exact hs h1; omega)).trans (h.block i hi hs)⟩
theorem own_ne {b b' : Nat} {t t' : TypeId} {cs cs' : List Value} (h : Own w b t cs) (h' : Own w b' t' cs') (ht : t ≠ t') : b ≠ b' := by
  rintro rfl
  have := Option.some.inj ((show w.heap[b]? = _ from h).symm.trans h')
  injection this with _ h2
  exact ht h2
theorem ownsRow_form {v : Value} {n : Nat} {xs : List Value} (h : w.ownsRow base el size v n xs) : ∃ a c, v = .slice a n c := by
  rcases h.2 with ⟨rfl, rfl⟩ | ⟨g, cap, cur, rfl, _⟩
  · exact ⟨_, _, rfl⟩
  · exact ⟨_, _, rfl⟩
theorem Bag.nil : Bag w base el size [] := ⟨fun _ h => by simp at h, .nil⟩
theorem Bag.chg (h : Bag w base el size L) (hc : Chg S w w') (hs : ∀ x ∈ L, ∀ b, x.1.ownBlock = some b → ¬ S b) : Bag w' base el size L :=
  ⟨fun x hx => (h.own x hx).imp fun n hn => ownsRow_chg hn hc (hs x hx), h.sep⟩
theorem Bag.kp (h : Bag w base el size L) (hc : Kp w w') : Bag w' base el size L := h.chg hc fun _ _ _ _ => id
theorem Bag.ne (h : Bag w base el size L) {b : Nat} {o : Obj} (ho : w.heap[b]? = some o) (hk : ∀ cs fr, o ≠ .cells cs el fr) : ∀ x ∈ L, x.1.ownBlock ≠ some b :=
  fun x hx => by obtain ⟨n, hn⟩ := h.own x hx; exact ownsRow_ne hn ho hk
theorem Bag.lt (h : Bag w base el size L) : ∀ x ∈ L, ∀ b, x.1.ownBlock = some b → base ≤ b ∧ b < w.heap.size :=
  fun x hx b hb => by obtain ⟨n, hn⟩ := h.own x hx; exact hn.lt b hb
theorem Bag.perm {L' : List (Value × List Value)} (h : Bag w base el size L) (hp : L.Perm L') : Bag w base el size L' :=
  ⟨fun x hx => h.own x (hp.mem_iff.2 hx), (hp.pairwise_iff (fun {x y} hxy b hb he => hxy b he hb)).1 h.sep⟩
/-- one more -/
theorem Bag.cons (h : Bag w base el size L) {v : Value} {n : Nat} {xs : List Value} (hv : w.ownsRow base el size v n xs) (hn : ∀ b, v.ownBlock = some b → ∀ x ∈ L, x.1.ownBlock ≠ some b) : Bag w base el size ((v, xs) :: L) :=
  ⟨fun x hx => by
    rcases List.mem_cons.1 hx with rfl | hx
    · exact ⟨n, hv⟩
    · exact h.own x hx, List.pairwise_cons.2 ⟨fun y hy b hb => hn b hb y hy, h.sep⟩⟩
theorem Bag.consNil (h : Bag w base el size L) : Bag w base el size ((.slice none 0 0, []) :: L) :=
  h.cons (World.ownsRow_nil _ _ _ _) fun b hb => by simp [Value.ownBlock] at hb
/-- the first one is written, grown or made anew -/
theorem Bag.head {v v' : Value} {xs xs' : List Value} {n' : Nat} (h : Bag w base el size ((v, xs) :: L)) (hc : Chg S w w') (hS : ∀ b, S b → some b = v.ownBlock ∨ ∀ x ∈ L, x.1.ownBlock ≠ some b) (hv : w'.ownsRow base el size v' n' xs')
    (hn : ∀ g, v'.ownBlock = some g → v.ownBlock = some g ∨ w.heap.size ≤ g) : Bag w' base el size ((v', xs') :: L) := by
  have hp := List.pairwise_cons.1 h.sep
  have hL : Bag w base el size L := ⟨fun x hx => h.own x (List.mem_cons_of_mem _ hx), hp.2⟩
  refine (hL.chg hc fun x hx b hb hs => ?_).cons hv fun b hb x hx he => ?_
  · rcases hS b hs with h1 | h1
    · exact hp.1 x hx b h1.symm hb
    · exact h1 x hx hb
  · rcases hn b hb with h1 | h1
    · exact hp.1 x hx b h1 he
    · have := (hL.lt x hx b he).2
      omega
theorem Bag.tail {x : Value × List Value} (h : Bag w base el size (x :: L)) : Bag w base el size L := ⟨fun y hy => h.own y (List.mem_cons_of_mem _ hy), (List.pairwise_cons.1 h.sep).2⟩

theorem flat_len {α : Type} {f : α → List Value} (hf : ∀ x, (f x).length = size) : ∀ l : List α, (l.flatMap f).length = l.length * size
  | [] => by simp
  | a :: r => by simp [hf, flat_len hf r, Nat.add_mul, Nat.add_comm]
theorem flat_get {α : Type} {f : α → List Value} (hf : ∀ x, (f x).length = size) : ∀ (l : List α) (i : Nat) (x : α), l[i]? = some x → ∀ j, j < size → (l.flatMap f)[i * size + j]? = (f x)[j]?
  | [], i, x, h, j, hj => by simp at h
  | a :: r, 0, x, h, j, hj => by
    simp at h
    subst h
    rw [List.flatMap_cons, Nat.zero_mul, Nat.zero_add, List.getElem?_append_left (by rw [hf]; exact hj)]
  | a :: r, i + 1, x, h, j, hj => by
    rw [List.flatMap_cons, List.getElem?_append_right (by rw [hf, Nat.add_mul]; omega), hf, show (i + 1) * size + j - size = i * size + j by rw [Nat.add_mul]; omega]
    exact flat_get hf r i x (by simpa using h) j hj
/-- what it holds can be read -/
theorem ownsRow_row {α : Type} {v : Value} {n : Nat} {f : α → List Value} {l : List α} (hf : ∀ x, (f x).length = size) (h : w.ownsRow base el size v n (l.flatMap f)) (hpos : 0 < size) : RowE (fun _ cs x => cs = f x) size base w.heap.size w v l := by
  have hlen := flat_len hf l
  have hn : l.length = n := by
    have := h.1
    rw [hlen] at this
    exact Nat.eq_of_mul_eq_mul_right hpos this
  rcases h.2 with ⟨rfl, h0⟩ | ⟨g, cap, cur, rfl, a2, a3, a4, a5, a6, a7⟩
  · have hl : l = [] := List.eq_nil_of_length_eq_zero (by omega)
    subst hl
    exact ⟨none, 0, rfl, Nat.le_refl _, fun i x hx => by simp at hx⟩
  · subst hn
    refine ⟨_, cap, rfl, a4, fun i x hx => ⟨g, 0, rfl, a2, lt_of_heap a3, f x, hf x, ?_, rfl⟩⟩
    intro j u hu
    rw [cell_of_row w g _ cur el (0, 0) a3]
    have hj := (List.getElem?_eq_some_iff.1 hu).1
    rw [hf] at hj
    have hi := (List.getElem?_eq_some_iff.1 hx).1
    have hget := flat_get hf l i x hx j hj
    rw [hu, ← a7, List.getElem?_take] at hget
    split at hget
    · simpa using hget
    · cases hget
end
end Go.Au

namespace Go.Au
open Go Go.RowKit Go.MapKept
open Go.Maps (Keyed)

section
variable {α β : Type} [DecidableEq α]
theorem alook_none_filter {l : List (α × β)} {x : α} (h : alook l x = none) : l.filter (fun p => decide (p.1 ≠ x)) = l := by
  induction l with
  | nil => rfl
  | cons p r ih =>
    obtain ⟨a, b⟩ := p
    simp only [alook] at h
    by_cases ha : a = x
    · rw [if_pos ha] at h; cases h
    · rw [if_neg ha] at h
      rw [List.filter_cons_of_pos (by simpa using ha), ih h]
theorem filter_new {l : List (α × β)} {x : α} (h : x ∉ l.map (·.1)) : l.filter (fun p => decide (p.1 ≠ x)) = l := by
  rw [List.filter_eq_self]
  intro p hp
  simp only [decide_eq_true_eq]
  intro he
  exact h (List.mem_map.2 ⟨p, hp, he⟩)
theorem perm_look {l : List (α × β)} {x : α} {v : β} (hn : (l.map (·.1)).Nodup) (h : alook l x = some v) : l.Perm ((x, v) :: l.filter (fun p => decide (p.1 ≠ x))) := by
  induction l with
  | nil => simp [alook] at h
  | cons p r ih =>
    obtain ⟨a, b⟩ := p
    simp only [List.map_cons, List.nodup_cons] at hn
    simp only [alook] at h
    by_cases ha : a = x
    · subst ha
      rw [if_pos rfl] at h
      simp only [Option.some.injEq] at h
      subst h
      rw [List.filter_cons_of_neg (by simp), filter_new hn.1]
    · rw [if_neg ha] at h
      rw [List.filter_cons_of_pos (by simpa using ha)]
      exact ((ih hn.2 h).cons _).trans (List.Perm.swap _ _ _)
theorem perm_aput {l : List (α × β)} {x : α} {v : β} (hn : (l.map (·.1)).Nodup) : (aput l x v).Perm ((x, v) :: l.filter (fun p => decide (p.1 ≠ x))) := by
  induction l with
  | nil => simp [aput]
  | cons p r ih =>
    obtain ⟨a, b⟩ := p
    simp only [List.map_cons, List.nodup_cons] at hn
    simp only [aput]
    by_cases ha : a = x
    · subst ha
      rw [if_pos rfl, List.filter_cons_of_neg (by simp), filter_new hn.1]
    · rw [if_neg ha, List.filter_cons_of_pos (by simpa using ha)]
      exact ((ih hn.2).cons _).trans (List.Perm.swap _ _ _)
theorem alook_some_mem {l : List (α × β)} {x : α} {v : β} (h : alook l x = some v) : (x, v) ∈ l := by
  induction l with
  | nil => simp [alook] at h
  | cons p r ih =>
    obtain ⟨a, b⟩ := p
    simp only [alook] at h
    by_cases ha : a = x
    · subst ha
      rw [if_pos rfl] at h
      simp only [Option.some.injEq] at h
      subst h
      exact List.mem_cons_self
    · rw [if_neg ha] at h
      exact List.mem_cons_of_mem _ (ih h)

variable {w w' : World} {base size : Nat} {el : TypeId} {S : Nat → Prop}
abbrev nilS : Value := .slice none 0 0

/-- rows that are a map's values: one of them is written -/
theorem Bag.aput {pre : List (Value × List Value)} {nl : List (α × Value)} {F : α → List Value} {x : α} {v' : Value} {n' : Nat} {xs' : List Value} (hn : (nl.map (·.1)).Nodup) (h : Bag w base el size (pre ++ nl.map fun p => (p.2, F p.1)))
    (hc : Chg S w w') (hS : ∀ b, S b → some b = (aget nl nilS x).ownBlock ∨ ∀ y ∈ pre ++ nl.map (fun p => (p.2, F p.1)), y.1.ownBlock ≠ some b) (hv : w'.ownsRow base el size v' n' xs')
    (hnew : ∀ g, v'.ownBlock = some g → (aget nl nilS x).ownBlock = some g ∨ w.heap.size ≤ g) :
    Bag w' base el size (pre ++ (Au.aput nl x v').map fun p => (p.2, if p.1 = x then xs' else F p.1)) := by
  have hrest : ((x, v') :: nl.filter (fun p => decide (p.1 ≠ x))).map (fun p => (p.2, if p.1 = x then xs' else F p.1)) = (v', xs') :: (nl.filter (fun p => decide (p.1 ≠ x))).map fun p => (p.2, F p.1) := by
    rw [List.map_cons]
    simp only [if_true]
    congr 1
    refine List.map_congr_left fun p hp => ?_
    have := (List.mem_filter.1 hp).2
    simp only [decide_eq_true_eq] at this
    rw [if_neg this]
  have hp1 : (pre ++ (Au.aput nl x v').map fun p => (p.2, if p.1 = x then xs' else F p.1)).Perm ((v', xs') :: (pre ++ (nl.filter (fun p => decide (p.1 ≠ x))).map fun p => (p.2, F p.1))) := by
    have := (perm_aput (v := v') hn (x := x)).map (fun p : α × Value => (p.2, if p.1 = x then xs' else F p.1))
    rw [hrest] at this
    exact (this.append_left pre).trans List.perm_middle
  refine Bag.perm ?_ hp1.symm
  cases hl : alook nl x with
  | some v =>
    have hp2 : (pre ++ nl.map fun p => (p.2, F p.1)).Perm ((v, F x) :: (pre ++ (nl.filter (fun p => decide (p.1 ≠ x))).map fun p => (p.2, F p.1))) :=
      (((perm_look hn hl).map (fun p : α × Value => (p.2, F p.1))).append_left pre).trans List.perm_middle
    have ha : aget nl nilS x = v := by simp [aget, hl]
    rw [ha] at hS hnew
    refine (h.perm hp2).head hc (fun b hb => ?_) hv hnew
    exact (hS b hb).imp id fun h y hy => h y (hp2.mem_iff.2 (List.mem_cons_of_mem _ hy))
  | none =>
    have ha : aget nl nilS x = nilS := by simp [aget, hl]
    rw [ha] at hS hnew
    rw [alook_none_filter hl]
    exact h.consNil.head hc hS hv hnew

theorem perm_at {γ : Type} : ∀ {L : List γ} {i : Nat} {a : γ}, L[i]? = some a → L.Perm (a :: L.eraseIdx i)
  | [], _, _, h => by simp at h
  | x :: r, 0, a, h => by simp at h; subst h; exact .refl _
  | x :: r, i + 1, a, h => by
    simp only [List.getElem?_cons_succ] at h
    simp only [List.eraseIdx_cons_succ]
    exact ((perm_at h).cons _).trans (List.Perm.swap _ _ _)
theorem perm_set {γ : Type} : ∀ {L : List γ} {i : Nat} {a b : γ}, L[i]? = some a → (L.set i b).Perm (b :: L.eraseIdx i)
  | [], _, _, _, h => by simp at h
  | x :: r, 0, a, b, h => by simp
  | x :: r, i + 1, a, b, h => by
    simp only [List.getElem?_cons_succ] at h
    simp only [List.eraseIdx_cons_succ, List.set_cons_succ]
    exact ((perm_set h).cons _).trans (List.Perm.swap _ _ _)
/-- rows in a row: one of them is written -/
theorem Bag.set {L : List (Value × List Value)} {i : Nat} {v v' : Value} {xs xs' : List Value} {n' : Nat} (h : Bag w base el size L) (hi : L[i]? = some (v, xs)) (hc : Chg S w w') (hS : ∀ b, S b → some b = v.ownBlock ∨ ∀ y ∈ L, y.1.ownBlock ≠ some b)
    (hv : w'.ownsRow base el size v' n' xs') (hnew : ∀ g, v'.ownBlock = some g → v.ownBlock = some g ∨ w.heap.size ≤ g) : Bag w' base el size (L.set i (v', xs')) := by
  have hp := perm_at hi
  refine Bag.perm ?_ (perm_set hi).symm
  exact (h.perm hp).head hc (fun b hb => (hS b hb).imp id fun h y hy => h y (hp.mem_iff.2 (List.mem_cons_of_mem _ hy))) hv hnew
end

section
theorem nodup_sub {α : Type} [DecidableEq α] : ∀ {l r : List α}, l.Nodup → (∀ x ∈ l, x ∈ r) → l.length ≤ r.length
  | [], r, _, _ => Nat.zero_le _
  | a :: l, r, hn, hs => by
    have ha := hs a List.mem_cons_self
    have hn := List.nodup_cons.1 hn
    have := nodup_sub (l := l) (r := r.erase a) hn.2 fun x hx => (List.mem_erase_of_ne fun he => hn.1 (by rw [← he]; exact hx)).2 (hs x (List.mem_cons_of_mem _ hx))
    rw [List.length_erase_of_mem ha] at this
    have := List.length_pos_of_mem ha
    simp only [List.length_cons]
    omega
theorem nodup_box {l : List (Int × Int)} {a b : Nat} (hn : l.Nodup) (h : ∀ p ∈ l, 0 ≤ p.1 ∧ p.1 < a ∧ 0 ≤ p.2 ∧ p.2 < b) : l.length ≤ a * b := by
  have hr : ((List.range a).flatMap fun (i : Nat) => (List.range b).map fun (j : Nat) => ((i : Int), (j : Int))).length = a * b := by
    rw [List.length_flatMap]
    simp
    clear h
    induction a with
    | zero => simp
    | succ a ih => rw [List.range_succ, List.map_append, List.sum_append, ih, Nat.add_mul]; simp
  rw [← hr]
  refine nodup_sub hn fun p hp => ?_
  obtain ⟨h1, h2, h3, h4⟩ := h p hp
  simp only [List.mem_flatMap, List.mem_range, List.mem_map]
  exact ⟨p.1.toNat, by omega, p.2.toNat, by omega, by ext <;> simp <;> omega⟩

theorem Own.one {w : World} {b o i : Nat} {t : TypeId} {cs : List Value} {v : Value} (h : Own w b t cs) (hv : cs[i]? = some v) (ho : o = i) : w.rangeAt b o [v] := by
  subst ho
  refine Own.at_ h ?_
  obtain ⟨hlt, he⟩ := List.getElem?_eq_some_iff.1 hv
  rw [List.drop_eq_getElem_cons hlt, he]
  rfl
variable {P : Program} {Γ : List (Nat × TI)} {w : World} {base : Nat} {t el : TypeId} {ti tj : TI}
/-- a new row -/
theorem ms (hG : Agree P Γ) {ρ : Operand → Value} {op : Oper} {l c : Operand} {kl kc : IntKind} {x y : Int} {K : Value → World → Prop} (ho : op.op = .makeSlice t l c) (hl : ρ l = .int kl x) (hc : ρ c = .int kc y) (ht : look Γ t = some ti) (hd : ti.desc = .slice el) (hj : look Γ el = some tj)
    (h0 : 0 ≤ x) (hxy : x ≤ y) (hb : (tj.bytes : Int) * y ≤ 281474976710656) (h63 : y ≤ 9223372036854775807)
    (hk : ∀ b w', w.heap.size = b → w'.heap.size = b + 1 → Kp w w' → w'.heap[b]? = some (.cells (rep (cellsL tj.zero) y.toNat).toArray el (0, 0)) → K (.slice (some ⟨b, 0, none⟩) x.toNat y.toNat) w') : Raw P ρ op w K := by
  have hu := (hG.look ht).1
  simp only [hd] at hu
  have hE := hG.look hj
  obtain ⟨i, hi, hz, hs, hbt⟩ := hE.info
  have hr := run_make (P := P) w t el i tj.zero hu hi hz kl kc x y h0 hxy (by rw [hbt]; exact hb) h63
  have hcz : madeCells tj.zero.cells (y.toNat * i.size) = (rep (cellsL tj.zero) y.toNat).toArray := by
    have hz2 := hE.2.2
    unfold madeCells
    rw [hs, ← hz2, cellsL_eq]
    exact rep_eq _ _
  rw [hcz] at hr
  refine ⟨_, _, ?_, hk w.heap.size _ rfl (by simp) (Chg.alloc _ _ _) (heap_alloc_new w _)⟩
  unfold execOp
  simp only [ho, hl, hc, Sem.run_bind, hr, Result.andThen_ok, Sem.run_pure]
/-- a new block in whatever order -/
theorem alr {S : World → World → Prop} (hS : Pre S) {e : Env} {w0 : World} {Dn : World → Prop} {op : Oper} {K : Value → DP → Prop} (ho : op.op = .alloc t) (hl : look Γ t = some ti) (hst : ∀ b o W W', w0.heap.size ≤ b → W.heap[b]? = some o → S W W' → W'.heap[b]? = some o) (hsz : ∀ W, S w0 W → w0.heap.size ≤ W.heap.size)
    (hk : ∀ b D, (∀ W, D W → Own W b t (cellsL ti.zero) ∧ w0.heap.size ≤ b) → K (.pointer (some ⟨b, 0, none⟩)) D) : Mk S w0 Dn (op1 P Γ e op) K :=
  ⟨Nat, ⟨0⟩, fun b => .pointer (some ⟨b, 0, none⟩), fun b W => Own W b t (cellsL ti.zero) ∧ w0.heap.size ≤ b, fun b W W' h hc => ⟨hst _ _ _ _ h.2 h.1 hc, h.2⟩, fun W h1 h2 => by
    unfold op1
    rw [ho]
    simp only [isPure, hl]
    exact nd fun b W' e1 e2 k m => ⟨hS.kp k, b, rfl, m, by rw [← e1]; exact hsz W h1⟩, fun b D hD => hk b D hD⟩
theorem alk {e : Env} {w0 : World} {Dn : World → Prop} {op : Oper} {K : Value → DP → Prop} (ho : op.op = .alloc t) (hl : look Γ t = some ti)
    (hk : ∀ b D, (∀ W, D W → Own W b t (cellsL ti.zero) ∧ w0.heap.size ≤ b) → K (.pointer (some ⟨b, 0, none⟩)) D) : Mk Kp w0 Dn (op1 P Γ e op) K :=
  alr (preChg _) ho hl (fun _ _ _ _ _ h k => k.heap h id) (fun _ k => k.size) hk
theorem own_row {α : Type} {size g : Nat} {f : α → List Value} {l : List α} (hf : ∀ x, (f x).length = size) (hpos : 0 < size) (h : Own w g el (l.flatMap f)) (hl : l.length ≤ maxLen) : RowE (fun _ cs x => cs = f x) size 0 w.heap.size w (.slice (some ⟨g, 0, none⟩) l.length l.length) l :=
  ownsRow_row (base := 0) (el := el) hf ⟨flat_len hf l, .inr ⟨g, l.length, (l.flatMap f).toArray, rfl, Nat.zero_le _, h, Nat.le_refl _, hl, by simpa using flat_len hf l, by rw [List.take_of_length_le (by simpa using Nat.le_of_eq (flat_len hf l))]⟩⟩ hpos
theorem ownsRow_own1 {g size : Nat} {xs : List Value} (h : w.ownsRow base el size (.slice (some ⟨g, 0, none⟩) 1 1) 1 xs) : Own w g el xs := by
  rcases h.2 with ⟨h, _⟩ | ⟨g', cap, cur, h, _, a3, _, _, a5, a6⟩
  · cases h
  · injection h with h1 h2 h3
    injection h1 with h1
    injection h1 with h1
    subst h1 h3
    have : cur = xs.toArray := by
      rw [← a6, List.take_of_length_le (by simp [a5])]
    rw [this] at a3
    exact a3
theorem own1_ownsRow {g size : Nat} {xs : List Value} (h : Own w g el xs) (hx : xs.length = size) (hb : base ≤ g) : w.ownsRow base el size (.slice (some ⟨g, 0, none⟩) 1 1) 1 xs :=
  ⟨by simp [hx], .inr ⟨g, 1, xs.toArray, rfl, hb, h, Nat.le_refl _, by simp [maxLen], by simp [hx], by rw [List.take_of_length_le (by simp [hx])]⟩⟩
end

section
variable {α β : Type} {P : Program} {Γ : List (Nat × TI)} {k : TypeId} {ek : α → Value} {ev' : β → Value} {w : World} {m : Nat} {xs : List (α × β)} {t el : TypeId} {ti : TI}
/-- how many entries a map has -/
theorem lm (hG : Agree P Γ) {ρ : Operand → Value} {op : Oper} {x : Operand} {K : Value → World → Prop} (ho : op.op = .call { callee := .builtin .len, args := #[x], argTypes := #[t] }) (hx : ρ x = .map (some m)) (ht : look Γ t = some ti) (hd : ti.desc = .map k el) (h : MapE P k ek ev' w m xs)
    (hk : K (.int .i64 xs.length) w) : Raw P ρ op w K := by
  have hu := (hG.look ht).1
  simp only [hd] at hu
  obtain ⟨es, clock, hb, hm, -⟩ := h.h
  have hl := congrArg List.length hm
  simp only [List.length_map, Array.length_toList] at hl
  refine ⟨_, _, ?_, hk⟩
  unfold execOp
  simp [ho, resolve, invoke, builtin, hx, Builtin.len_, run_underlying hu, MapKept.run_getObj_map hb, Result.andThen, goInt, hl]
end

/-- a call in whatever order, whose answer is one of some -/
theorem callf {P : Program} {Γ : List (Nat × TI)} {S : World → World → Prop} {e : Env} {w0 : World} {Dn : World → Prop} {op : Oper} {K : Value → DP → Prop} {c : Go.Call} {τ : Type} [hne : Nonempty τ] (f : τ → Value) (F : τ → World → Prop) (ho : op.op = .call c) {fo : Operand} {g : FuncId} {first cap : Array Value} (hc : c.callee = .value fo) (hf : ev e fo = .func (.func g) first cap)
    (hst : ∀ y W W', F y W → S W W' → F y W') (hcall : callable P g = true) (h : ∀ W, S w0 W → Dn W → Calls P g (first.toList ++ c.args.toList.map (ev e) ++ cap.toList).toArray W (Ret fun v W' => S W W' ∧ ∃ y, v = f y ∧ F y W'))
    (hk : ∀ y D, (∀ W, D W → F y W) → K (f y) D) : Mk S w0 Dn (op1 P Γ e op) K :=
  ⟨τ, hne, f, F, hst, fun W h1 h2 => by
    unfold op1
    rw [ho]
    simp only [isPure, hc, hf]
    exact ⟨hcall, Calls.mono (h W h1 h2) fun en w' hr => by
      cases en with
      | returned v => exact hr
      | _ => exact hr.elim⟩, fun y D hD => hk y D hD⟩

theorem Chg.below {w w' : World} (h : Kp w w') : Below w.heap.size w w' := ⟨h.os, h.tape, h.output, h.size, fun k hk => h.block k hk id⟩
theorem row_of {w w' : World} {e : Ending} (h : Ret (fun v w' => v = .bool true ∧ Kp w w') e w') : Below w.heap.size w w' ∧ e = .returned (.bool true) := by
  cases e with
  | returned v => obtain ⟨rfl, k⟩ := h; exact ⟨k.below, rfl⟩
  | _ => exact h.elim

/-! ### an order of one's own -/
def nthO : List Oper → Nat → Option Oper
  | [], _ => none
  | o :: _, 0 => some o
  | _ :: r, n + 1 => nthO r n
theorem nthO_eq : ∀ (l : List Oper) (i : Nat), nthO l i = l[i]?
  | [], i => by simp [nthO]
  | o :: r, 0 => by simp [nthO]
  | o :: r, i + 1 => by simp [nthO, nthO_eq r i]
noncomputable def VCo (P : Program) (Γ : List (Nat × TI)) (S : World → World → Prop) (w0 : World) (ops : List Oper) (ms : List Nat) (Q : Env → List (Nat × DP) → Prop) (l : List Nat) : List (Nat × DP) → Env → Prop :=
  List.rec (motive := fun _ => List (Nat × DP) → Env → Prop) (fun Ds e => Q e Ds)
    (fun i _ ih Ds e => match nthO ops i with
      | some o => grd ops e o (opr P Γ S w0 (DnF ((ms[i]?).getD 0) Ds) e o fun v D => ih (addD Ds i D) (putE e o.dst v)) (ih Ds (putE e o.dst undef))
      | none => False) l
section
variable {P : Program} {Γ : List (Nat × TI)} {n : Nat} {ds : List Deferred} {rd : Option Nat}
theorem VCo_to (hG : Agree P Γ) {S : World → World → Prop} {w0 : World} {ops : List Oper} {ms : List Nat} {Q : Env → List (Nat × DP) → Prop} : ∀ (l : List Nat) (Ds : List (Nat × DP)) (e : Env), VCo P Γ S w0 ops ms Q l Ds e → VCs P Γ S (fun _ => True) 0 w0 ops ms Q ((nodes ops l).map fun p => (p.1, p.2, none)) Ds e
  | [], Ds, e, h => h
  | i :: r, Ds, e, h => by
    change (match nthO ops i with
      | some o => grd ops e o (opr P Γ S w0 (DnF ((ms[i]?).getD 0) Ds) e o fun v D => VCo P Γ S w0 ops ms Q r (addD Ds i D) (putE e o.dst v)) (VCo P Γ S w0 ops ms Q r Ds (putE e o.dst undef))
      | none => False) at h
    simp only [nodes, List.map_cons, VCs]
    split at h
    · rename_i o ho
      rw [nthO_eq] at ho
      rw [ho, Option.getD_some]
      refine grd_mono h ?_ (fun h => VCo_to hG r _ _ h)
      intro h
      unfold opr at h
      split at h
      · rename_i hi
        rcases opP_spec (P := P) hG h with h | ⟨v, hk, hp⟩
        · exact h.elim
        · exact .inl ⟨hi, v, hp, VCo_to hG r _ _ hk⟩
      · rename_i hi
        exact .inr ⟨hi, (h.mono fun v D h => VCo_to hG r _ _ h).toU hG⟩
    · exact h.elim
/-- A REGION IN WHATEVER ORDER, walked in an order of one's own: m operations at will, the rest in a row. -/
theorem drawnO (hG : Agree P Γ) (hm : P.follows .mixedOrders = true) {id : Nat} {ops : Array Oper} (m : Nat) (ord : List Nat) (hreg : regOk ops.toList m ord = true) (S : World → World → Prop) (hS : Pre S) {K : Exit → Env → World → Prop} {e : Env} {w : World}
    (h : VCo P Γ S w ops.toList (masks ops.toList) (fun E Ds => ∀ W, S w W → (∀ j, getDs Ds j W) → VCl P Γ ops.toList (K .normal) (ops.toList.drop m) E W) ord [] e) :
    Piece P n ds rd (.region id ops true) K e w := drawnS hG hm m ord hreg S hS (VCo_to hG _ _ _ h)
theorem drawnK (hG : Agree P Γ) (hm : P.follows .mixedOrders = true) {id : Nat} {ops : Array Oper} (m : Nat) (ord : List Nat) (hreg : regOk ops.toList m ord = true) {K : Exit → Env → World → Prop} {e : Env} {w : World}
    (h : VCo P Γ Kp w ops.toList (masks ops.toList) (fun E Ds => ∀ W, Kp w W → (∀ j, getDs Ds j W) → VCl P Γ ops.toList (K .normal) (ops.toList.drop m) E W) ord [] e) :
    Piece P n ds rd (.region id ops true) K e w := drawnO hG hm m ord hreg Kp (preChg _) h
end

/-! ### an order of one's own, where one operation breaks what the others ahead of it see -/
def oprU (P : Program) (Γ : List (Nat × TI)) (S : World → World → Prop) (U : World → Prop) (px xx : Bool) (w0 : World) (Dn : World → Prop) (e : Env) (o : Oper) (K : Value → Option DP → Prop) : Prop := match isPure o.op with
  | true => opP P Γ e o False fun v => K v none
  | false => MkU S U px xx w0 Dn (op1 P Γ e o) fun v D => K v (some D)
noncomputable def VCu (P : Program) (Γ : List (Nat × TI)) (S : World → World → Prop) (U : World → Prop) (x0 : Nat) (w0 : World) (ops : List Oper) (ms : List Nat) (Q : Env → List (Nat × DP) → Prop) (l : List Nat) : List (Nat × DP) → Env → Prop :=
  List.rec (motive := fun _ => List (Nat × DP) → Env → Prop) (fun Ds e => Q e Ds)
    (fun i _ ih Ds e => match nthO ops i with
      | some o => grd ops e o (oprU P Γ S U (pxOf ms x0 i) (Nat.beq i x0) w0 (DnF ((ms[i]?).getD 0) Ds) e o fun v D => ih (addD Ds i D) (putE e o.dst v)) (ih Ds (putE e o.dst undef))
      | none => False) l
section
variable {P : Program} {Γ : List (Nat × TI)} {n : Nat} {ds : List Deferred} {rd : Option Nat}
theorem VCu_to (hG : Agree P Γ) {S : World → World → Prop} {U : World → Prop} {x0 : Nat} {w0 : World} {ops : List Oper} {ms : List Nat} {Q : Env → List (Nat × DP) → Prop} : ∀ (l : List Nat) (Ds : List (Nat × DP)) (e : Env), VCu P Γ S U x0 w0 ops ms Q l Ds e → VCs P Γ S U x0 w0 ops ms Q ((nodes ops l).map fun p => (p.1, p.2, none)) Ds e
  | [], Ds, e, h => h
  | i :: r, Ds, e, h => by
    change (match nthO ops i with
      | some o => grd ops e o (oprU P Γ S U (pxOf ms x0 i) (Nat.beq i x0) w0 (DnF ((ms[i]?).getD 0) Ds) e o fun v D => VCu P Γ S U x0 w0 ops ms Q r (addD Ds i D) (putE e o.dst v)) (VCu P Γ S U x0 w0 ops ms Q r Ds (putE e o.dst undef))
      | none => False) at h
    simp only [nodes, List.map_cons, VCs]
    split at h
    · rename_i o ho
      rw [nthO_eq] at ho
      rw [ho, Option.getD_some]
      refine grd_mono h ?_ (fun h => VCu_to hG r _ _ h)
      intro h
      unfold oprU at h
      split at h
      · rename_i hi
        rcases opP_spec (P := P) hG h with h | ⟨v, hk, hp⟩
        · exact h.elim
        · exact .inl ⟨hi, v, hp, VCu_to hG r _ _ hk⟩
      · rename_i hi
        obtain ⟨τ, hn, f, F, h1, h2, h3⟩ := h
        exact .inr ⟨hi, τ, hn, f, F, h1, fun W a b c => op1_does hG (h2 W a b c), fun y D hD => VCu_to hG r _ _ (h3 y D hD)⟩
    · exact h.elim
/-- A REGION IN WHATEVER ORDER, in which one operation (the x0-th) breaks U. -/
theorem drawnU (hG : Agree P Γ) (hm : P.follows .mixedOrders = true) {id : Nat} {ops : Array Oper} (m : Nat) (ord : List Nat) (hreg : regOk ops.toList m ord = true) (S : World → World → Prop) (hS : Pre S) (U : World → Prop) (x0 : Nat) {K : Exit → Env → World → Prop} {e : Env} {w : World} (hU : U w.drew)
    (h : VCu P Γ S U x0 w ops.toList (masks ops.toList) (fun E Ds => ∀ W, S w W → (∀ j, getDs Ds j W) → VCl P Γ ops.toList (K .normal) (ops.toList.drop m) E W) ord [] e) :
    Piece P n ds rd (.region id ops true) K e w := drawnV hG hm m ord hreg S hS U x0 hU (VCu_to hG _ _ _ h)
/-- a load in such a region -/
theorem ldu {S : World → World → Prop} {U : World → Prop} {px xx : Bool} (hS : Pre S) (hG : Agree P Γ) {t : TypeId} {b o : Nat} {cs : List Value} {e : Env} {w0 : World} {Dn : World → Prop} {op : Oper} {x : Operand} {K : Value → DP → Prop} (ho : op.op = .load t x) (hx : ev e x = pt b o) {v : Value} (hr : ∀ W, S w0 W → Dn W → (px = true → U W) → W.rangeAt b o cs) (hv : asV Γ t cs = some v) (hk : ∀ D, K v D) :
    MkU S U px xx w0 Dn (op1 P Γ e op) K :=
  ⟨Unit, ⟨()⟩, fun _ => v, fun _ _ => True, fun _ _ _ _ _ => trivial, fun W h1 h2 h3 => by
    unfold op1
    rw [ho]
    simp only [isPure]
    rw [hx]
    exact ld hG (hr W h1 h2 h3) hv ⟨⟨hS.refl _, fun _ h => h⟩, (), rfl, trivial⟩, fun _ D _ => hk D⟩
/-- a store in such a region, of which F is told -/
theorem stu {S : World → World → Prop} {U : World → Prop} {px : Bool} {e : Env} {w0 : World} {Dn : World → Prop} {op : Oper} {t : TypeId} {x y : Operand} {K : Value → DP → Prop} (F : World → Prop) (ho : op.op = .store t x y) (hst : ∀ W W', F W → S W W' → F W')
    (h : ∀ W, S w0 W → Dn W → (px = true → U W) → St P t (ev e x) (ev e y) W fun W' => S W W' ∧ F W') (hk : ∀ D, (∀ W, D W → F W) → K undef D) : MkU S U px true w0 Dn (op1 P Γ e op) K :=
  ⟨Unit, ⟨()⟩, fun _ => undef, fun _ W => F W, fun _ W W' => hst W W', fun W h1 h2 h3 => by
    unfold op1
    rw [ho]
    simp only [isPure]
    obtain ⟨w', q1, q2, q3⟩ := h W h1 h2 h3
    exact ⟨w', q1, ⟨q2, fun hh => by cases hh⟩, (), trivial, q3⟩, fun _ D hD => hk D hD⟩
end
end Go.Au

namespace Go.Au
open Go Go.RowKit Go.MapKept
open Go.Maps (Keyed)

/-! ### ranges over functions -/
/-- what an iterator does with a yield: xs are handed over, one by one, till one round says no; C: what it reads -/
structure IterC {α : Type} (P : Program) (g : FuncId) (cap : List Value) (enc : α → List Value) (xs : List α) (C : World → Prop) : Prop where
  h : ∀ (l : Nat) (J Jx : List α → World → Prop) (W : World), (∀ pre W W', J pre W → Kp W W' → J pre W') → (∀ pre W W', Jx pre W → Kp W W' → Jx pre W') → (∀ pre W, J pre W → C W) →
    (∀ pre x W, J pre W → pre ++ [x] <+: xs → YieldAt Fence.wide 0 P l (enc x).toArray W (Ret fun v W' => (v = .bool true ∧ J (pre ++ [x]) W') ∨ (v = .bool false ∧ Jx (pre ++ [x]) W'))) → J [] W →
    Calls P g (.func (.yield l) #[] #[] :: cap).toArray W (Ret fun _ W' => J xs W' ∨ ∃ pre, Jx pre W')

def setPs (e : Env) : List (Nat × Value) → Env
  | [] => e
  | (t, a) :: r => setPs (upd e t a) r
theorem setPs_ag (n : Nat) : ∀ (l : List (Nat × Value)) (e : Env), (∀ p ∈ l, p.1 < mark) → ({ tmps := l.foldl (fun t p => t.setIfInBounds p.1 p.2) (ag n [] e).tmps, defers := (ag n [] e).defers } : Act) = ag n [] (setPs e l)
  | [], e, _ => rfl
  | (t, a) :: r, e, h => by
    have h1 := ag_put n [] e (some t) (by simpa [okD, Nat.blt_eq] using h _ List.mem_cons_self) a
    have h2 : (ag n [] e).tmps.setIfInBounds t a = (ag n [] (upd e t a)).tmps := congrArg Act.tmps h1
    have h3 : (ag n [] e).defers = (ag n [] (upd e t a)).defers := (congrArg Act.defers h1 : ((ag n [] e).put (some t) a).defers = _)
    simp only [List.foldl_cons, setPs, h2, h3]
    exact setPs_ag n r (upd e t a) fun p hp => h p (List.mem_cons_of_mem _ hp)

section
variable {P : Program} {Γ : List (Nat × TI)} {n : Nat} {ds : List Deferred} {rd : Option Nat}

/-- a round's end -/
def roundQ (J : World → Prop) (Jx : Exit → World → Prop) (keep : World → Prop) : Exit → Env → World → Prop
  | .normal, _, W => J W ∧ keep W
  | .ret, _, W => Jx .ret W ∧ keep W
  | .exit i, _, W => Jx (.exit i) W ∧ keep W
  | _, _, _ => False

def keepB (lo hi : Nat) (W W' : World) : Prop := ∀ k, lo ≤ k → k < hi → W'.heap[k]? = W.heap[k]?

theorem putObj_chg {S : Nat → Prop} {r : Nat} (W : World) (o : Obj) (h : S r) : Chg S W (W.putObj r o) :=
  ⟨rfl, rfl, Nat.le_refl _, rfl, by simp [World.putObj], fun k _ hn => World.putObj_heap_other fun he => hn (he ▸ h)⟩
theorem run_callFunc {g : FuncId} (hc : callable P g = true) (args : Array Value) (w : World) : (callFunc g args).run P w = .ok (.enter g args) w := by
  unfold callable at hc
  split at hc
  · rename_i fn hfn
    rw [Bool.and_eq_true] at hc
    have h1 : (fn.name == "runtime.NumGoroutine") = false := by simpa using hc.1
    have h2 : fn.body.isNone = false := by
      have := hc.2
      cases hb : fn.body <;> simp_all
    have hfn' : ∀ (w : World), (program).run P w = .ok P w := fun w => rfl
    simp only [callFunc, Sem.run_bind, hfn', Result.andThen_ok, hfn, h1, h2]
    simp
  · cases hc

theorem range_core (hG : Agree P Γ) {α : Type} {f : Operand} {ps : Array Tmp} {asn body : Code} {Q : Exit → Env → World → Prop} {e e' : Env} {w : World} {g : FuncId} {cap : Array Value} {enc : α → List Value} {xs : List α} {C : World → Prop}
    (l : Nat) (mk : List Deferred) (w1 : FuncId → World) (D : Nat) (sz : Nat)
    (henter : ∀ fn, (Instr.enterLoop fn (ag n ds e).tmps ps asn body rd).run P w = .ok (l, mk) (w1 fn))
    (hrec : ∀ fn, (w1 fn).heap[l]? = some (.loop { state := .ready, pending := none, fn := fn, tmps := (ag n ds e).tmps, params := ps, assign := asn, body := body, defers := D }))
    (hold : ∀ fn, Kp w (w1 fn)) (hsz : ∀ fn, (w1 fn).heap.size = sz) (hl : w.heap.size ≤ l) (hmk : ({ ag n ds e with defers := mk ++ (ag n ds e).defers } : Act) = ag n ds e')
    (hf : ev e f = .func (.func g) #[] cap) (hg : callable P g = true) (it : IterC P g cap.toList enc xs C) (hps : ∀ x, (enc x).length = ps.size)
    (J : List α → World → Prop) (Jx : Exit → List α → World → Prop)
    (hJ : ∀ pre W W', J pre W → Chg (fun k => w.heap.size ≤ k ∧ k < sz) W W' → J pre W') (hJx : ∀ x pre W W', Jx x pre W → Chg (fun k => w.heap.size ≤ k ∧ k < sz) W W' → Jx x pre W') (hC : ∀ pre W, J pre W → C W) (h0 : J [] w)
    (hbody : ∀ pre x W, J pre W → pre ++ [x] <+: xs → sz ≤ W.heap.size → (∃ r, W.heap[l]? = some (.loop r)) → VCC P Γ n [] (some l) asn (fun y e1 W1 => match y with
      | .normal => W1 = W ∧ ∀ W2, W2.heap.size = W.heap.size → Chg (fun k => k = l) W W2 → (∃ r, W2.heap[l]? = some (.loop r)) → VCC P Γ n [] (some l) body (roundQ (J (pre ++ [x])) (fun y => Jx y (pre ++ [x])) (keepB w.heap.size sz W2)) e1 W2
      | _ => False) (setPs (upd e mark undef) (ps.toList.zip (enc x))) W)
    (hdone : ∀ fn W, J xs W → (∀ k, w.heap.size ≤ k → k < sz → k ≠ l → W.heap[k]? = (w1 fn).heap[k]?) → Q .normal e' W)
    (hstop : ∀ fn W x pre, Jx x pre W → (∀ k, w.heap.size ≤ k → k < sz → k ≠ l → W.heap[k]? = (w1 fn).heap[k]?) → (match x with | .ret => Q .ret e' W | .exit i => Q (.exit i) e' W | _ => False)) :
    Piece P n ds rd (.rangeFunc f ps asn body) Q e w := by
  intro hok
  simp only [okC, Bool.and_eq_true] at hok
  obtain ⟨⟨⟨⟨o1, o2⟩, o3⟩, o4⟩, o5⟩ := hok
  have o5 := Nat.le_of_ble_eq_true o5
  refine wpIn_rangeFunc ?_
  intro fn _
  obtain ⟨rec, hr⟩ : ∃ rec : LoopState → Option Code → Loop, rec = fun st pe => { state := st, pending := pe, fn := fn, tmps := (ag n ds e).tmps, params := ps, assign := asn, body := body, defers := D } := ⟨_, rfl⟩
  have hlw : l < sz := by rw [← hsz fn]; exact (Array.getElem?_eq_some_iff.1 (hrec fn)).1
  have hrec0 : (w1 fn).heap[l]? = some (.loop (rec .ready none)) := by rw [hr]; exact hrec fn
  refine ⟨l, mk, w1 fn, { target := .fn (.func g) cap, args := #[.func (.yield l) #[] #[]] }, w1 fn, g, #[.func (.yield l) #[] #[]] ++ cap, w1 fn, henter fn, ?_, fun _ _ => trivial, ?_, fun h => by simp [fen, Fence.wide] at h, ?_⟩
  · simp only [resolve, rangeCall, ag_eval o1, hf]
    simp [go_sem]
  · simp [invoke, go_sem, run_callFunc hg]
  rw [hmk]
  have hargs : (#[.func (.yield l) #[] #[]] ++ cap : Array Value) = (.func (.yield l) #[] #[] :: cap.toList).toArray := by
    apply Array.toList_inj.1; simp
  rw [hargs]
  have keepT : ∀ {W W' : World}, (∀ k, w.heap.size ≤ k → k < sz → k ≠ l → W.heap[k]? = (w1 fn).heap[k]?) → sz ≤ W.heap.size → Kp W W' → ∀ k, w.heap.size ≤ k → k < sz → k ≠ l → W'.heap[k]? = (w1 fn).heap[k]? := fun h hs hk k h1 h2 h3 => (hk.block k (by omega) id).trans (h k h1 h2 h3)
  have hcall := it.h l (fun pre W => J pre W ∧ W.heap[l]? = some (.loop (rec .ready none)) ∧ sz ≤ W.heap.size ∧ ∀ k, w.heap.size ≤ k → k < sz → k ≠ l → W.heap[k]? = (w1 fn).heap[k]?)
    (fun pre W => ∃ x c, ((x = .ret ∧ c = .ret) ∨ ∃ i, x = .exit i ∧ c = .exit i) ∧ Jx x pre W ∧ W.heap[l]? = some (.loop (rec .done (some c))) ∧ sz ≤ W.heap.size ∧ ∀ k, w.heap.size ≤ k → k < sz → k ≠ l → W.heap[k]? = (w1 fn).heap[k]?)
    (w1 fn) (fun pre W W' ⟨a, b, c, d⟩ hk => ⟨hJ _ _ _ a (hk.mono fun _ hf => hf.elim), (hk.block l (by omega) id).trans b, Nat.le_trans c hk.size, keepT d c hk⟩)
    (fun pre W W' ⟨x, cd, hx, a, b, c, d⟩ hk => ⟨x, cd, hx, hJx _ _ _ _ a (hk.mono fun _ hf => hf.elim), (hk.block l (by omega) id).trans b, Nat.le_trans c hk.size, keepT d c hk⟩)
    (fun pre W h => hC pre W h.1) ?_ ⟨hJ _ _ _ h0 ((hold fn).mono fun _ hf => hf.elim), hrec0, by rw [hsz fn]; exact Nat.le_refl _, fun _ _ _ _ => rfl⟩
  · have hcall' : CallsIn (fen rd) (0 - 1) P g (.func (.yield l) #[] #[] :: cap.toList).toArray (w1 fn) _ := (callsIn_wide (n := 0)).2 hcall
    refine hcall'.mono ?_
    intro en W2 hr2
    cases en with
    | returned v =>
      rcases hr2 with ⟨a, b, c, d⟩ | ⟨pre, x, cd, hx, a, b, c, d⟩
      · have hend := run_endLoop (P := P) b (by rw [hr]; simp)
        rw [hr] at hend
        refine ⟨none, _, hend, e', rfl, hdone fn _ (hJ _ _ _ a (putObj_chg _ _ ⟨hl, hlw⟩)) fun k h1 h2 h3 => ?_⟩
        rw [World.putObj_heap_other h3]; exact d k h1 h2 h3
      · have hend := run_endLoop (P := P) b (by rw [hr]; simp)
        rw [hr] at hend
        refine ⟨some cd, _, hend, ?_⟩
        rcases hx with ⟨rfl, rfl⟩ | ⟨i, rfl, rfl⟩
        · exact wpIn_ret ⟨e', rfl, hstop fn _ .ret pre (hJx _ _ _ _ a (putObj_chg _ _ ⟨hl, hlw⟩)) (fun k h1 h2 h3 => by rw [World.putObj_heap_other h3]; exact d k h1 h2 h3)⟩
        · exact wpIn_exit ⟨e', rfl, hstop fn _ (.exit i) pre (hJx _ _ _ _ a (putObj_chg _ _ ⟨hl, hlw⟩)) (fun k h1 h2 h3 => by rw [World.putObj_heap_other h3]; exact d k h1 h2 h3)⟩
    | _ => exact hr2.elim
  · rintro pre x W ⟨hj, hl2, hs2, hk2⟩ hpre
    have hrun := run_yield (P := P) (args := (enc x).toArray) hl2 (by rw [hr]; simp [hps])
    rw [hr] at hrun
    refine ⟨fn, _, asn, body, hrun, roundIn_of_wpIn trivial ?_⟩
    have hag : ({ tmps := (ps.zip (enc x).toArray).foldl (fun tmps (p : Tmp × Value) => tmps.setIfInBounds p.1 p.2) (ag n ds e).tmps, defers := [] } : Act) = ag n [] (setPs (upd e mark undef) (ps.toList.zip (enc x))) := by
      have h1 := setPs_ag n (ps.toList.zip (enc x)) (upd e mark undef) (fun p hp => by
        have h2 := List.all_eq_true.1 o4 p.1 (List.of_mem_zip hp).1
        simpa [Nat.blt_eq] using h2)
      rw [← h1]
      have ht : (ag n [] (upd e mark undef)).tmps = (ag n ds e).tmps := by
        simp only [ag]
        congr 1
        refine List.map_congr_left fun t ht => ?_
        have : t < n := by simpa using ht
        simp only [upd, beqf (show ¬ t = mark by omega), cond_false]
      have hu : upd e mark undef mark = undef := by simp only [upd, show Nat.beq mark mark = true from Nat.beq_refl mark, cond_true]
      have hd : (ag n [] (upd e mark undef)).defers = [] := by show dsOf (upd e mark undef mark) ++ [] = []; rw [hu]; rfl
      rw [ht, hd]
      congr 1
      rw [← Array.foldl_toList, Array.toList_zip]
    rw [hag]
    have hs := VCC_sound (rd := some l) hG asn o2 (hbody pre x W hj hpre hs2 ⟨_, hl2⟩)
    refine wpIn_mono (F := fen (some l)) hs ?_
    rintro y a W1 ⟨e1, rfl, hq⟩
    cases y with
    | normal =>
      obtain ⟨rfl, hq⟩ := hq
      refine ⟨_, run_beginRound hl2 (by rw [hr]), ?_⟩
      have hl3 : (W1.putObj l (.loop { rec .ready none with state := .busy })).heap[l]? = some (.loop { rec .ready none with state := .busy }) := World.putObj_heap_same (by omega)
      have hb := VCC_sound (rd := some l) hG body o3 (hq _ (by simp [World.putObj]) (putObj_chg _ _ rfl) ⟨_, hl3⟩)
      refine wpIn_mono (F := fen (some l)) hb ?_
      rintro y a W2 ⟨e2, rfl, hq2⟩
      have fin : ∀ (jump : Option Code), keepB w.heap.size sz (W1.putObj l (.loop { rec .ready none with state := .busy })) W2 →
          (Instr.endRound l jump).run P W2 = .ok (.bool jump.isNone) (W2.putObj l (.loop (rec (if jump.isNone then .ready else .done) jump))) ∧
          (W2.putObj l (.loop (rec (if jump.isNone then .ready else .done) jump))).heap[l]? = some (.loop (rec (if jump.isNone then .ready else .done) jump)) ∧
          sz ≤ (W2.putObj l (.loop (rec (if jump.isNone then .ready else .done) jump))).heap.size ∧
          ∀ k, w.heap.size ≤ k → k < sz → k ≠ l → (W2.putObj l (.loop (rec (if jump.isNone then .ready else .done) jump))).heap[k]? = (w1 fn).heap[k]? := fun jump hk => by
        have hl4 := (hk l hl hlw).trans hl3
        have hend := run_endRound (P := P) jump hl4
        have hlt := (Array.getElem?_eq_some_iff.1 hl4).1
        refine ⟨by rw [hr] at hend ⊢; exact hend, World.putObj_heap_same hlt, ?_, fun k h1 h2 h3 => ?_⟩
        · have : sz ≤ W2.heap.size := by
            rcases Nat.lt_or_ge W2.heap.size sz with h | h
            · exfalso
              have h5 := hk (sz - 1) (by omega) (by omega)
              rw [Array.getElem?_eq_none (by omega), Array.getElem?_eq_getElem (by simp [World.putObj]; omega)] at h5
              cases h5
            · exact h
          simpa [World.putObj] using this
        · rw [World.putObj_heap_other h3, hk k h1 h2, World.putObj_heap_other h3]
          exact hk2 k h1 h2 h3
      cases y with
      | normal =>
        obtain ⟨hj2, hkp⟩ := hq2
        obtain ⟨f1, f2, f3, f4⟩ := fin none hkp
        exact ⟨_, _, f1, .inl ⟨rfl, hJ _ _ _ hj2 (putObj_chg _ _ ⟨hl, hlw⟩), f2, f3, f4⟩⟩
      | ret =>
        obtain ⟨hj2, hkp⟩ := hq2
        obtain ⟨f1, f2, f3, f4⟩ := fin (some .ret) hkp
        exact ⟨_, _, f1, .inr ⟨rfl, .ret, .ret, .inl ⟨rfl, rfl⟩, hJx _ _ _ _ hj2 (putObj_chg _ _ ⟨hl, hlw⟩), f2, f3, f4⟩⟩
      | exit i =>
        obtain ⟨hj2, hkp⟩ := hq2
        obtain ⟨f1, f2, f3, f4⟩ := fin (some (.exit i)) hkp
        exact ⟨_, _, f1, .inr ⟨rfl, .exit i, .exit i, .inr ⟨i, rfl, rfl⟩, hJx _ _ _ _ hj2 (putObj_chg _ _ ⟨hl, hlw⟩), f2, f3, f4⟩⟩
      | _ => exact hq2.elim
    | _ => exact hq.elim

/-- a range over a function, outside of any round -/
theorem rangeF (hG : Agree P Γ) {α : Type} {f : Operand} {ps : Array Tmp} {asn body : Code} {Q : Exit → Env → World → Prop} {e : Env} {w : World} {g : FuncId} {cap : Array Value} {enc : α → List Value} {xs : List α} {C : World → Prop}
    (J : List α → World → Prop) (Jx : Exit → List α → World → Prop)
    (hf : ev e f = .func (.func g) #[] cap) (hg : callable P g = true) (it : IterC P g cap.toList enc xs C) (hps : ∀ x, (enc x).length = ps.size)
    (hJ : ∀ pre W W', J pre W → Chg (fun k => w.heap.size ≤ k ∧ k < w.heap.size + 2) W W' → J pre W') (hJx : ∀ x pre W W', Jx x pre W → Chg (fun k => w.heap.size ≤ k ∧ k < w.heap.size + 2) W W' → Jx x pre W') (hC : ∀ pre W, J pre W → C W) (h0 : J [] w)
    (hbody : ∀ l pre x W, l = w.heap.size + 1 → J pre W → pre ++ [x] <+: xs → w.heap.size + 2 ≤ W.heap.size → (∃ r, W.heap[l]? = some (.loop r)) → VCC P Γ n [] (some l) asn (fun y e1 W1 => match y with
      | .normal => W1 = W ∧ ∀ W2, W2.heap.size = W.heap.size → Chg (fun k => k = l) W W2 → (∃ r, W2.heap[l]? = some (.loop r)) → VCC P Γ n [] (some l) body (roundQ (J (pre ++ [x])) (fun y => Jx y (pre ++ [x])) (keepB w.heap.size (w.heap.size + 2) W2)) e1 W2
      | _ => False) (setPs (upd e mark undef) (ps.toList.zip (enc x))) W)
    (hdone : ∀ D W, D = w.heap.size → J xs W → W.heap[D]? = some (.deferred (some [])) → Q .normal (upd e mark (pushD D (e mark))) W)
    (hstop : ∀ D W x pre, D = w.heap.size → Jx x pre W → W.heap[D]? = some (.deferred (some [])) → (match x with | .ret => Q .ret (upd e mark (pushD D (e mark))) W | .exit i => Q (.exit i) (upd e mark (pushD D (e mark))) W | _ => False)) :
    Piece P n ds none (.rangeFunc f ps asn body) Q e w := by
  intro hok
  have hnm : n ≤ mark := by
    simp only [okC, Bool.and_eq_true] at hok
    exact Nat.le_of_ble_eq_true hok.2
  refine range_core (e' := upd e mark (pushD w.heap.size (e mark))) hG (w.heap.size + 1) [{ target := .collected w.heap.size, args := #[] }]
    (fun fn => (w.alloc (.deferred (some []))).alloc (.loop { state := .ready, pending := none, fn := fn, tmps := (ag n ds e).tmps, params := ps, assign := asn, body := body, defers := w.heap.size })) w.heap.size (w.heap.size + 2)
    (fun fn => run_enterLoop_outer _ _ _ _ _) (fun fn => ?_) (fun fn => (Chg.alloc _ _ _).trans (Chg.alloc _ _ _)) (fun fn => by simp) (by omega) ?_ hf hg it hps J Jx hJ hJx hC h0 (fun pre x W a b c d => hbody _ pre x W rfl a b c d)
    (fun fn W a b => hdone _ W rfl a ?_) (fun fn W x pre a b => hstop _ W x pre rfl a ?_) hok
  · have := World.alloc_heap_new (w.alloc (.deferred (some []))) (.loop { state := .ready, pending := none, fn := fn, tmps := (ag n ds e).tmps, params := ps, assign := asn, body := body, defers := w.heap.size })
    rwa [World.size_alloc] at this
  · have hu : upd e mark (pushD w.heap.size (e mark)) mark = pushD w.heap.size (e mark) := by simp only [upd, show Nat.beq mark mark = true from Nat.beq_refl mark, cond_true]
    simp only [ag, hu, dsOf, dsN_push, List.map_cons, List.cons_append, List.nil_append]
    congr 2
    refine List.map_congr_left fun t ht => ?_
    have : t < n := by simpa using ht
    simp only [upd, beqf (show ¬ t = mark by omega), cond_false]
  · rw [b w.heap.size (Nat.le_refl _) (by omega) (by omega)]
    exact (Below.heap_alloc _ _ _ (by simp)).trans (World.alloc_heap_new w _)
  · rw [b w.heap.size (Nat.le_refl _) (by omega) (by omega)]
    exact (Below.heap_alloc _ _ _ (by simp)).trans (World.alloc_heap_new w _)

/-- a range over a function within a round -/
theorem rangeG (hG : Agree P Γ) {α : Type} {f : Operand} {ps : Array Tmp} {asn body : Code} {Q : Exit → Env → World → Prop} {e : Env} {w : World} {g : FuncId} {cap : Array Value} {enc : α → List Value} {xs : List α} {C : World → Prop} {l0 : Nat}
    (hl0 : ∃ r, w.heap[l0]? = some (.loop r)) (J : List α → World → Prop) (Jx : Exit → List α → World → Prop)
    (hf : ev e f = .func (.func g) #[] cap) (hg : callable P g = true) (it : IterC P g cap.toList enc xs C) (hps : ∀ x, (enc x).length = ps.size)
    (hJ : ∀ pre W W', J pre W → Chg (fun k => w.heap.size ≤ k ∧ k < w.heap.size + 1) W W' → J pre W') (hJx : ∀ x pre W W', Jx x pre W → Chg (fun k => w.heap.size ≤ k ∧ k < w.heap.size + 1) W W' → Jx x pre W') (hC : ∀ pre W, J pre W → C W) (h0 : J [] w)
    (hbody : ∀ l pre x W, l = w.heap.size → J pre W → pre ++ [x] <+: xs → w.heap.size + 1 ≤ W.heap.size → (∃ r, W.heap[l]? = some (.loop r)) → VCC P Γ n [] (some l) asn (fun y e1 W1 => match y with
      | .normal => W1 = W ∧ ∀ W2, W2.heap.size = W.heap.size → Chg (fun k => k = l) W W2 → (∃ r, W2.heap[l]? = some (.loop r)) → VCC P Γ n [] (some l) body (roundQ (J (pre ++ [x])) (fun y => Jx y (pre ++ [x])) (keepB w.heap.size (w.heap.size + 1) W2)) e1 W2
      | _ => False) (setPs (upd e mark undef) (ps.toList.zip (enc x))) W)
    (hdone : ∀ W, J xs W → Q .normal e W)
    (hstop : ∀ W x pre, Jx x pre W → (match x with | .ret => Q .ret e W | .exit i => Q (.exit i) e W | _ => False)) :
    Piece P n ds (some l0) (.rangeFunc f ps asn body) Q e w := by
  obtain ⟨r0, hr0⟩ := hl0
  refine range_core (e' := e) hG w.heap.size []
    (fun fn => w.alloc (.loop { state := .ready, pending := none, fn := fn, tmps := (ag n ds e).tmps, params := ps, assign := asn, body := body, defers := r0.defers })) r0.defers (w.heap.size + 1)
    (fun fn => run_enterLoop_inner hr0 _ _ _ _ _) (fun fn => World.alloc_heap_new _ _) (fun fn => Chg.alloc _ _ _) (fun fn => by simp) (Nat.le_refl _) (by simp) hf hg it hps J Jx hJ hJx hC h0 (fun pre x W a b c d => hbody _ pre x W rfl a b c d)
    (fun fn W a b => hdone W a) (fun fn W x pre a b => hstop W x pre a)
end
end Go.Au

namespace Go.Au
open Go Go.RowKit

/-! ### a loop whose rounds leave marks -/
def marksV : List Nat → Value
  | [] => undef
  | d :: r => pushD d (marksV r)
section
variable {P : Program} {Γ : List (Nat × TI)} {n : Nat} {ds : List Deferred} {rd : Option Nat}
structure AgainM {σ : Type} (mk : σ → Value) (slots : σ → List (Nat × Value)) (Inv : σ → World → Prop) (m : σ → Nat) (p : σ) (e : Env) (w : World) : Prop where
  h : ∃ p', Has e (slots p') ∧ e mark = mk p' ∧ Inv p' w ∧ m p' < m p

theorem loopM (hG : Agree P Γ) {Q : Exit → Env → World → Prop} {e : Env} {w : World} {σ : Type} (mk : σ → Value) (slots : σ → List (Nat × Value)) (Inv : σ → World → Prop) (m : σ → Nat) (p0 : σ) {body : Code}
    (hmk0 : e mark = mk p0) (hs : Has e (slots p0)) (h0 : Inv p0 w)
    (round : ∀ p e0 w, Inv p w → VCC P Γ n ds rd body (fun x e' w' => match x with
      | .normal => AgainM mk slots Inv m p e' w'
      | x => Q x e' w') (upd (setL e0 (slots p)) mark (mk p)) w) : Piece P n ds rd (.loop body) Q e w := by
  intro hk
  have hk' : okC n body = true := by simpa [okC] using hk
  intro b kk cs hro hb hr0
  have key : ∀ k p e1 w, m p = k → Has e1 (slots p) → e1 mark = mk p → Inv p w →
      ∃ x a' w', lift n ds Q x a' w' ∧ ArrivesIn (Machine.fenced P (fen rd)) P (lone (b.atR (ag n ds e1) (.code body :: .inLoop body :: kk)) cs w) b kk cs x a' w' := by
    intro k
    induction k using Nat.strongRecOn with
    | _ k ih =>
      intro p e1 w hk hh hmk hI
      have hr := VCC_sound hG body hk' (round p e1 w hI)
      rw [setL_mark hh hmk] at hr
      obtain ⟨x, a₁, w₁, ⟨e₁, rfl, hq⟩, harr⟩ := hr b (.inLoop body :: kk) cs hro hb hr0
      cases x with
      | normal =>
        obtain ⟨p', hh', hm', hI', hlt⟩ := AgainM.h hq
        obtain ⟨x₂, a₂, w₂, hq₂, harr₂⟩ := ih (m p') (hk ▸ hlt) p' e₁ w₁ rfl hh' hm' hI'
        exact ⟨x₂, a₂, w₂, hq₂, .of_steps (StepsIn.trans harr (.one (fenced_calm hb hr0 rfl) stepR_inLoop)) harr₂⟩
      | exit id => exact ⟨_, _, w₁, ⟨e₁, rfl, hq⟩, .pass (x := .inLoop body) rfl (fun _ _ => .inl (by simp)) harr⟩
      | goto l => exact ⟨_, _, w₁, ⟨e₁, rfl, hq⟩, .pass (x := .inLoop body) rfl (fun _ _ => .inl (by simp)) harr⟩
      | ret => exact ⟨_, _, w₁, ⟨e₁, rfl, hq⟩, .pass (x := .inLoop body) rfl (fun _ _ => .inl (by simp)) harr⟩
      | panic ch => exact ⟨_, _, w₁, ⟨e₁, rfl, hq⟩, .pass (x := .inLoop body) rfl (fun _ _ => .inl (by simp)) harr⟩
      | outgrown => exact ⟨_, _, w₁, ⟨e₁, rfl, hq⟩, .pass (x := .inLoop body) rfl (fun _ _ => .inl (by simp)) harr⟩
  obtain ⟨x, a', w', hq, harr⟩ := key _ p0 e w rfl hs hmk0 h0
  exact ⟨x, a', w', hq, .of_steps (.one (fenced_calm hb hr0 rfl) stepR_loop) harr⟩
theorem againM {σ : Type} {mk : σ → Value} {slots : σ → List (Nat × Value)} {Inv : σ → World → Prop} {m : σ → Nat} {p : σ} {e : Env} {w : World} (p' : σ) (h1 : Has e (slots p')) (h2 : e mark = mk p') (h3 : Inv p' w) (h4 : m p' < m p) : AgainM mk slots Inv m p e w := ⟨⟨p', h1, h2, h3, h4⟩⟩
end
section
variable {P : Program} {Γ : List (Nat × TI)} {ρ : Operand → Value} {o : Oper} {K : Value → Prop}
/-- equality of values that are no numbers, texts, structs -/
theorem prEq {op : BinOp} {t t' : TypeId} {x y : Operand} {a b : Value} {r : Bool} (hop : op = .eql ∨ op = .neq) (ho : o.op = .binOp op t x y t') (hx : ρ x = a) (hy : ρ y = b)
    (ha : match a with | .func .. | .pointer _ | .nilFunc => True | _ => False) (hb : match b with | .func .. | .pointer _ | .nilFunc => True | _ => False) (hr : ∀ W, (Op.equal t a b).run P W = .ok r W) (hk : K (.bool (match op with | .eql => r | _ => !r))) : PR P ρ o K := by
  refine ⟨_, pure_value (s := (do eqGuard op t x y a b; binOp op t a b)) (by unfold execOp; rw [ho]; simp only [hx, hy]) fun W => ?_, hk⟩
  have hg : (eqGuard op t x y a b).run P W = .ok () W := by
    unfold eqGuard
    cases a <;> first | exact ha.elim | skip
    all_goals (cases b <;> first | exact hb.elim | skip)
    all_goals (rcases hop with rfl | rfl <;> simp)
  rw [Sem.run_bind, hg]
  simp only [Result.andThen]
  cases a <;> first | exact ha.elim | skip
  all_goals (cases b <;> first | exact hb.elim | skip)
  all_goals (rcases hop with rfl | rfl <;> (simp only [binOp]; rw [Sem.run_bind, hr]; rfl))
def isFn (Γ : List (Nat × TI)) (t : TypeId) : Bool := match look Γ t with
  | some ti => match ti.desc with
    | .func .. => true
    | _ => false
  | none => false
def isPtr (Γ : List (Nat × TI)) (t : TypeId) : Bool := match look Γ t with
  | some ti => match ti.desc with
    | .pointer _ => true
    | _ => false
  | none => false
theorem run_equalIn_fn_nil (d : Nat) {t : TypeId} {ps rs vd} (W : World) (hu : P.underlying t = some (.func ps rs vd)) (f : Fn) (a b : Array Value) : (Op.equalIn (d + 1) t (.func f a b) .nilFunc).run P W = .ok false W := by simp [Op.equalIn, run_underlying hu]
theorem run_equalIn_ptr_nil' (d : Nat) {t el : TypeId} (W : World) (hu : P.underlying t = some (.pointer el)) (p : Option Addr) : (Op.equalIn (d + 1) t (.pointer p) (.pointer none)).run P W = .ok p.isNone W := by cases p <;> simp [Op.equalIn, run_underlying hu]
theorem run_fn_nil (hG : Agree P Γ) {t : TypeId} (ht : isFn Γ t = true) (f : Fn) (a b : Array Value) (W : World) : (Op.equal t (.func f a b) .nilFunc).run P W = .ok false W := by
  unfold isFn at ht
  split at ht
  · rename_i ti hl
    have hu := (hG.look hl).1
    split at ht
    · rename_i hd
      simp only [hd] at hu
      exact run_equalIn_fn_nil 9999 W hu f a b
    · cases ht
  · cases ht
theorem run_ptr_nil (hG : Agree P Γ) {t : TypeId} (ht : isPtr Γ t = true) (p : Option Addr) (W : World) : (Op.equal t (.pointer p) (.pointer none)).run P W = .ok p.isNone W := by
  unfold isPtr at ht
  split at ht
  · rename_i ti hl
    have hu := (hG.look hl).1
    split at ht
    · rename_i hd
      simp only [hd] at hu
      exact run_equalIn_ptr_nil' 9999 W hu p
    · cases ht
  · cases ht
theorem fnNil (hG : Agree P Γ) {t t' : TypeId} {x y : Operand} {f : Fn} {a b : Array Value} (ho : o.op = .binOp .eql t x y t') (hx : ρ x = .func f a b) (hy : ρ y = .nilFunc) (ht : isFn Γ t = true) (hk : K (.bool false)) : PR P ρ o K :=
  prEq (.inl rfl) ho hx hy trivial trivial (fun W => run_fn_nil hG ht f a b W) hk
theorem ptrNil (hG : Agree P Γ) {t t' : TypeId} {x y : Operand} {p : Option Addr} (ho : o.op = .binOp .eql t x y t') (hx : ρ x = .pointer p) (hy : ρ y = .pointer none) (ht : isPtr Γ t = true) (hk : K (.bool p.isNone)) : PR P ρ o K :=
  prEq (.inl rfl) ho hx hy trivial trivial (fun W => run_ptr_nil hG ht p W) hk
theorem ptrNotNil (hG : Agree P Γ) {t t' : TypeId} {x y : Operand} {p : Option Addr} (ho : o.op = .binOp .neq t x y t') (hx : ρ x = .pointer p) (hy : ρ y = .pointer none) (ht : isPtr Γ t = true) (hk : K (.bool (!p.isNone))) : PR P ρ o K :=
  prEq (.inr rfl) ho hx hy trivial trivial (fun W => run_ptr_nil hG ht p W) hk
end
end Go.Au

namespace Go.Au
open Go Go.RowKit

section
variable {P : Program} {Γ : List (Nat × TI)} {ρ : Operand → Value} {o : Oper} {K : Value → Prop}
def isSl (Γ : List (Nat × TI)) (t : TypeId) : Bool := match look Γ t with
  | some ti => match ti.desc with
    | .slice _ => true
    | _ => false
  | none => false
theorem run_equalIn_sl_nil (d : Nat) {t el : TypeId} (W : World) (hu : P.underlying t = some (.slice el)) (a : Option Addr) (n c : Nat) : (Op.equalIn (d + 1) t (.slice a n c) (.slice none 0 0)).run P W = .ok a.isNone W := by cases a <;> simp [Op.equalIn, run_underlying hu]
theorem run_sl_nil (hG : Agree P Γ) {t : TypeId} (ht : isSl Γ t = true) (a : Option Addr) (n c : Nat) (W : World) : (Op.equal t (.slice a n c) (.slice none 0 0)).run P W = .ok a.isNone W := by
  unfold isSl at ht
  split at ht
  · rename_i ti hl
    have hu := (hG.look hl).1
    split at ht
    · rename_i hd
      simp only [hd] at hu
      exact run_equalIn_sl_nil 9999 W hu a n c
    · cases ht
  · cases ht
/-- a slice against nil -/
theorem slNil (hG : Agree P Γ) {t t' : TypeId} {x y : Operand} {a : Option Addr} {n c : Nat} (ho : o.op = .binOp .eql t x y t') (hx : ρ x = .slice a n c) (hy : ρ y = .slice none 0 0) (ht : isSl Γ t = true) (hk : K (.bool a.isNone)) : PR P ρ o K := by
  refine ⟨_, pure_value (s := (do eqGuard .eql t x y (.slice a n c) (.slice none 0 0); binOp .eql t (.slice a n c) (.slice none 0 0))) (by unfold execOp; rw [ho]; simp only [hx, hy]) fun W => ?_, hk⟩
  have hg : (eqGuard .eql t x y (.slice a n c) (.slice none 0 0)).run P W = .ok () W := by
    unfold eqGuard
    simp
  rw [Sem.run_bind, hg]
  simp only [Result.andThen, binOp]
  rw [Sem.run_bind, run_sl_nil hG ht]
  rfl
end
end Go.Au

namespace Go.Au
open Go Go.RowKit

section
variable {P : Program} {Γ : List (Nat × TI)} {ρ : Operand → Value} {o : Oper} {K : Value → Prop}
/-- an element of an array that is pointed to -/
theorem ixArr (hG : Agree P Γ) {t el : TypeId} {x y : Operand} {b o1 len : Nat} {k : IntKind} {j : Nat} {ti tj : TI} (ho : o.op = .indexAddr t x y) (hx : ρ x = .pointer (some ⟨b, o1, none⟩)) (hy : ρ y = .int k j) (hl : look Γ t = some ti) (hd : ti.desc = .array len el) (hj : look Γ el = some tj) (h : j < len) (hk : K (.pointer (some ⟨b, o1 + j * tj.size, none⟩))) : PR P ρ o K := by
  have hu := (hG.look hl).1
  simp only [hd] at hu
  have hs := (hG.look hj).2.1
  have sz : ∀ W, Sem.run P (sizeOf el) W = .ok tj.size W := fun W => by
    cases hi : P.info? el with
    | none => simp [hi] at hs
    | some i =>
      simp [hi] at hs
      simp [sizeOf, typeInfo, hi, hs.2.1, Result.andThen, go_sem]
  refine ⟨_, fun W => ?_, hk⟩
  unfold execOp
  rw [ho]
  simp only [hx, hy]
  simp [Instr.indexAt, asIntOf, run_underlying hu, h, Result.andThen, Instr.sureAddr]
  rw [sz]
  simp [add_none]
end
end Go.Au

namespace Go.Au
open Go Go.RowKit

/-! ### what is handed in -/
section
variable {P : Program} {w : World} {α : Type}

/-- cells of a type, where they can be read as data, hold an x -/
def Opens (P : Program) (w : World) (t : TypeId) (E : List Value → α → Prop) : Prop :=
  ∀ (H : Type) (enc : TypeId × Value → H) (fuel base : Nat) (sp : Nat → Bool) (hd : Bool) (cs : List Value) (d : DataW H) (ps : List MemPlace),
    DataW.trod enc P w base sp hd fuel t cs = some (d, ps) → (d.weights P t).all (· ≤ reachBytes) = true → ∃ x, E cs x

theorem Opens.mono {E E' : List Value → α → Prop} {t : TypeId} (h : Opens P w t E) (hE : ∀ cs x, E cs x → E' cs x) : Opens P w t E' :=
  fun H enc f b sp hd cs d ps h1 h2 => (h H enc f b sp hd cs d ps h1 h2).imp fun x hx => hE cs x hx

theorem opens_int {t : TypeId} {k : IntKind} (ht : P.underlying t = some (.int k)) : Opens P w t (fun cs (x : Int) => cs = [.int k x] ∧ k.min ≤ x ∧ x ≤ k.max) := by
  intro H enc f b sp hd cs d ps h _
  obtain ⟨n, rfl, -, hw⟩ := DataW.trod_int ht h
  simp only [Lit.wf, Bool.and_eq_true, decide_eq_true_eq] at hw
  exact ⟨n, rfl, hw⟩
theorem opens_bool {t : TypeId} (ht : P.underlying t = some .bool) : Opens P w t (fun cs (x : Bool) => cs = [.bool x]) := by
  intro H enc f b sp hd cs d ps h _
  obtain ⟨n, rfl, -⟩ := DataW.trod_bool ht h
  exact ⟨n, rfl⟩
theorem opens_string {t : TypeId} (ht : P.underlying t = some .string) : Opens P w t (fun cs (x : ByteArray) => cs = [.string x] ∧ x.size ≤ reachBytes) := by
  intro H enc f b sp hd cs d ps h hw
  obtain ⟨s, rfl, hx, -⟩ := DataW.trod_string ht h
  simp only [Prod.mk.injEq] at hx
  obtain ⟨rfl, -⟩ := hx
  refine ⟨s, rfl, ?_⟩
  have := List.all_eq_true.1 hw s.data.toList.length (by simp [DataW.weights])
  simpa using this

theorem weightsAll_mem {H : Type} {e : TypeId} : ∀ {l : List (DataW H)} {d : DataW H}, d ∈ l → ∀ n ∈ d.weights P e, n ∈ DataW.weightsAll P e l
  | [], _, h, _, _ => by simp at h
  | a :: l, d, h, n, hn => by
    simp only [DataW.weightsAll, List.mem_append]
    rcases List.mem_cons.1 h with rfl | h
    · exact .inl hn
    · exact .inr (weightsAll_mem h n hn)

theorem choose_list {p : Nat → α → Prop} : ∀ {n : Nat}, (∀ i, i < n → ∃ x, p i x) → ∃ xs : List α, xs.length = n ∧ ∀ i x, xs[i]? = some x → p i x
  | 0, _ => ⟨[], rfl, fun i x h => by simp at h⟩
  | n + 1, h => by
    obtain ⟨xs, h1, h2⟩ := choose_list (n := n) fun i hi => h i (by omega)
    obtain ⟨x, hx⟩ := h n (by omega)
    refine ⟨xs ++ [x], by simp [h1], fun i y hy => ?_⟩
    rw [List.getElem?_append] at hy
    split at hy
    · exact h2 i y hy
    · have hi : i = n := by
        have := (List.getElem?_eq_some_iff.1 hy).1
        simp at this
        omega
      subst hi
      rw [h1] at hy
      simp at hy
      exact hy ▸ hx

/-- a slice -/
theorem opens_slice {t e : TypeId} {size B : Nat} {E : List Value → α → Prop} (ht : P.underlying t = some (.slice e)) (hc : P.cellsOf e = size) (hpos : 0 < size) (hb : P.bytesOf e = B) (hB : 0 < B) (hE : Opens P w e E) :
    Opens P w t (fun cs (xs : List α) => ∃ v, cs = [v] ∧ RowE (fun _ => E) size 0 w.heap.size w v xs ∧ xs.length * B ≤ reachBytes) := by
  intro H enc f b sp hd cs d ps h hw
  rcases Deep.open_slice ht h with ⟨rfl, -⟩ | ⟨a, len, cap, m, n, D, Pl, rfl, hba, hl, hcm, hm, hx, hel⟩
  · exact ⟨[], _, rfl, ⟨none, 0, rfl, Nat.le_refl _, fun i x hx => by simp at hx⟩, by simp⟩
  · simp only [Prod.mk.injEq] at hx
    obtain ⟨rfl, -⟩ := hx
    have hlm : len ≤ m := by rw [hm]; split <;> omega
    simp only [DataW.weights, ht, List.all_cons, List.all_append, Bool.and_eq_true, decide_eq_true_eq, hb] at hw
    obtain ⟨hw1, hw2, -⟩ := hw
    have hw1 : len * B ≤ reachBytes := by
      refine Nat.le_trans (Nat.mul_le_mul_right _ ?_) hw1
      simp
    have hex : ∀ i, i < len → ∃ x, ∃ cs', cs'.length = size ∧ (∀ j v, cs'[j]? = some v → w.cell? ((a.add (i * size)).add j) = some v) ∧ E cs' x := by
      intro i hi
      obtain ⟨cs', h1, h2⟩ := hel i (by omega)
      rw [hc] at h1
      obtain ⟨-, hlen, hcell⟩ := World.cells?_some h1
      obtain ⟨x, hx⟩ := hE H enc n b sp hd cs' (D i) (Pl i) h2 (by
        rw [List.all_eq_true] at hw2 ⊢
        exact fun q hq => hw2 q (weightsAll_mem (List.mem_map.2 ⟨i, by simpa using hi, rfl⟩) q hq))
      exact ⟨x, cs', hlen, fun j v hv => by
        have := (List.getElem?_eq_some_iff.1 hv).1
        rw [hcell j (by omega), hv], hx⟩
    obtain ⟨xs, hxl, hxs⟩ := choose_list hex
    subst hxl
    refine ⟨xs, _, rfl, ⟨some a, cap, rfl, hl, fun i x hx => ?_⟩, hw1⟩
    have hi := (List.getElem?_eq_some_iff.1 hx).1
    obtain ⟨cs0, hl0, hc0, -⟩ := hxs 0 xs[0] (by rw [List.getElem?_eq_getElem (by omega)])
    have hspot : a.spot = none := by
      cases cs0 with
      | nil => simp at hl0; omega
      | cons v r =>
        have := hc0 0 v rfl
        rw [Nat.zero_mul] at this
        simp only [Addr.add, if_true] at this
        unfold World.cell? at this
        split at this
        · split at this
          · cases this
          · rename_i hn; simpa using hn
        · cases this
    obtain ⟨cs', hlen, hcell, he⟩ := hxs i x hx
    obtain ⟨bk, of, sp'⟩ := a
    simp only at hspot
    subst hspot
    have hadd : ∀ j, (Addr.add (Addr.add ⟨bk, of, none⟩ (i * size)) j) = ⟨bk, of + i * size + j, none⟩ := by
      intro j
      rw [Deep.add_add]
      simp only [Addr.add]
      split
      · rename_i h0; rw [show of + i * size + j = of by omega]
      · rw [Nat.add_assoc]
    have hrd : w.rangeAt bk (of + i * size) cs' := fun j v hv => by
      have := hcell j v hv
      rw [hadd] at this
      exact this
    refine ⟨bk, of, rfl, Nat.zero_le _, ?_, cs', hlen, hrd, he⟩
    cases cs' with
    | nil => simp at hlen; omega
    | cons v r => exact World.block_lt_of_cell? w _ (hrd 0 v rfl)

/-- a struct's fields -/
theorem field_of {H : Type} {enc : TypeId × Value → H} {fuel base : Nat} {sp : Nat → Bool} {hd : Bool} {t : TypeId} {fs : Array Field} {cs : List Value} {d : DataW H} {ps : List MemPlace} (ht : P.underlying t = some (.struct fs)) (h : DataW.trod enc P w base sp hd fuel t cs = some (d, ps)) (hw : (d.weights P t).all (· ≤ reachBytes) = true) :
    cs.length = P.cellsOf t ∧ ∀ (j : Nat) (f : Field), fs[j]? = some f → ∀ {β : Type} {E : List Value → β → Prop}, Opens P w f.type E → ∃ x, E ((cs.drop f.offset).take (P.cellsOf f.type)) x := by
  obtain ⟨xs, n, -, hx, hlen, hxl, hf⟩ := DataW.trod_struct ht h
  simp only [Prod.mk.injEq] at hx
  obtain ⟨rfl, -⟩ := hx
  refine ⟨hlen, fun j f hj β E hE => ?_⟩
  have hfj := hf j f hj
  have hjl : j < xs.length := by rw [hxl]; exact (Array.getElem?_eq_some_iff.1 hj).1
  rw [List.getElem?_eq_getElem hjl] at hfj
  refine hE H enc n base sp hd _ _ _ hfj ?_
  rw [List.all_eq_true] at hw ⊢
  intro q hq
  refine hw q ?_
  simp only [DataW.weights, ht]
  exact DataW.weights_mem_each (j := j) (t := f.type) (by simp [hj]) (by simp [List.getElem?_eq_getElem hjl]) q hq

/-- a handed-in argument -/
theorem handed {H : Type} {enc : TypeId × Value → H} {base : Nat} {sp : Nat → Bool} {hd : Bool} {t : TypeId} {v : Value} {d : DataW H} {ps : List MemPlace} {E : List Value → α → Prop} {ts : List TypeId} {ds : List (DataW H)} (j : Nat) (h : DataW.Trod enc P w base sp hd t v d ps)
    (hsz : (DataW.weightsEach P ts ds).all (· ≤ reachBytes) = true) (ht : ts[j]? = some t) (hdj : ds[j]? = some d) (hE : Opens P w t E) : ∃ x, E v.cells.toList x := by
  obtain ⟨fuel, hf⟩ := h
  refine hE H enc fuel base sp hd _ _ _ hf ?_
  rw [List.all_eq_true] at hsz ⊢
  exact fun q hq => hsz q (DataW.weights_mem_each ht hdj q hq)
end
end Go.Au
namespace Go.Au
open Go Go.RowKit
theorem fld_at {P : Program} {w : World} {β : Type} {fs : Array Field} {cs : List Value} (hf : ∀ (j : Nat) (f : Field), fs[j]? = some f → ∀ {β : Type} {E : List Value → β → Prop}, Opens P w f.type E → ∃ x, E ((cs.drop f.offset).take (P.cellsOf f.type)) x)
    (j off sz : Nat) {ty : TypeId} {E : List Value → β → Prop} (h : (fs[j]?).map (fun f => (f.offset, f.type)) = some (off, ty)) (hz : P.cellsOf ty = sz) (hE : Opens P w ty E) : ∃ x, E ((cs.drop off).take sz) x := by
  cases hj : fs[j]? with
  | none => rw [hj] at h; cases h
  | some f =>
    rw [hj] at h
    simp only [Option.map_some, Option.some.injEq, Prod.mk.injEq] at h
    obtain ⟨rfl, rfl⟩ := h
    obtain ⟨x, hx⟩ := hf j f hj hE
    rw [hz] at hx
    exact ⟨x, hx⟩
end Go.Au

namespace Go.Au
open Go Go.RowKit

/-! ### rows that are lent: a copy, with marks behind -/
section
variable {P : Program} {Γ : List (Nat × TI)} {w w' : World} {lo hi size n m k : Nat} {v : Value} {t el : TypeId} {ti tj : TI} {α : Type} {f : α → List Value} {xs : List α} {marks : List Value}

theorem ownsRow_range {base b cap : Nat} {cs : List Value} (h : w.ownsRow base el size (.slice (some ⟨b, 0, none⟩) n cap) n cs) : w.rangeAt b 0 cs := by
  intro j u hu
  have := h.cells (g := b) rfl j u hu
  simpa [Addr.add, Nat.zero_add] using (show w.cell? ⟨b, 0 + j, none⟩ = some u by
    simp only [Addr.add] at this
    split at this
    · rename_i h0; subst h0; exact this
    · exact this)
theorem ownsRow_some {base : Nat} {cs : List Value} (h : w.ownsRow base el size v n cs) (hn : 0 < n) : ∃ b cap, v = .slice (some ⟨b, 0, none⟩) n cap ∧ base ≤ b ∧ b < w.heap.size ∧ n ≤ cap ∧ cap ≤ maxLen := by
  rcases h.2 with ⟨_, h0⟩ | ⟨g, cap, cur, rfl, h1, h2, h3, h4, _⟩
  · omega
  · exact ⟨g, cap, rfl, h1, lt_of_heap h2, h3, h4⟩

/-- nothing is appended -/
theorem run_app0 (hG : Agree P Γ) (hl : look Γ t = some ti) (hd : ti.desc = .slice el) (hj : look Γ el = some tj) {base c : Nat} {cs : List Value} (hown : w.ownsRow base el size v n cs) (ty : TypeId) :
    (Builtin.append_ #[t, t] ty #[v, .slice none 0 c]).run P w = .ok v w := by
  have hu := (hG.look hl).1
  simp only [hd] at hu
  have hsz := run_size (hG.look hj) w
  obtain ⟨a, cap, rfl, hle⟩ : ∃ a cap, v = .slice a n cap ∧ n ≤ cap := by
    rcases hown.2 with ⟨rfl, rfl⟩ | ⟨g, cap, cur, rfl, h1, h2, h3, h4, _⟩
    · exact ⟨_, _, rfl, Nat.le_refl _⟩
    · exact ⟨_, cap, rfl, h3⟩
  cases a with
  | none => simp [Builtin.append_, run_underlying hu, hsz, Builtin.lenOf, Builtin.firstCells, hle, Result.andThen]
  | some a => simp [Builtin.append_, run_underlying hu, hsz, Builtin.lenOf, Builtin.firstCells, hle, Result.andThen, storeCells]

theorem row_news (hf : ∀ x, (f x).length = size) (hpos : 0 < size) {a : Addr} {cap : Nat} (hr : RowE (fun _ c x => c = f x) size lo hi w (.slice (some a) xs.length cap) xs) : ∀ (j : Nat) (u : Value), (xs.flatMap f)[j]? = some u → w.cell? (a.add j) = some u := by
  obtain ⟨a', cap', he, hcap, hx'⟩ := hr
  cases he
  intro j u hu'
  have hj' := (List.getElem?_eq_some_iff.1 hu').1
  rw [flat_len hf] at hj'
  have hdiv : j / size < xs.length := Nat.div_lt_of_lt_mul (by rw [Nat.mul_comm]; exact hj')
  obtain ⟨b, o, hab, -, -, c, hc, hrd, rfl⟩ := hx' (j / size) xs[j / size] (List.getElem?_eq_getElem hdiv)
  cases hab
  have hmod : j % size < size := Nat.mod_lt _ hpos
  have hg := flat_get hf xs (j / size) xs[j / size] (List.getElem?_eq_getElem hdiv) (j % size) hmod
  have hjj : j / size * size + j % size = j := by rw [Nat.mul_comm]; exact Nat.div_add_mod j size
  rw [hjj, hu'] at hg
  have := hrd (j % size) u hg.symm
  rw [Nat.add_assoc, hjj] at this
  rw [Addr.add_mid]
  exact this
/-- an append of a row, where there is room -/
theorem apR (hG : Agree P Γ) {ρ : Operand → Value} {op : Oper} {s x : Operand} {base g cap : Nat} {cs : List Value} {u : Value} {K : Value → World → Prop} (ho : op.op = .call { callee := .builtin .append, args := #[s, x], argTypes := #[t, t] }) (hs : ρ s = .slice (some ⟨g, 0, none⟩) n cap) (hx : ρ x = u)
    (hl : look Γ t = some ti) (hd : ti.desc = .slice el) (hj : look Γ el = some tj) (hsz : tj.size = size) (hpos : 0 < size) (hown : w.ownsRow base el size (.slice (some ⟨g, 0, none⟩) n cap) n cs) (hf : ∀ x, (f x).length = size)
    (hr : RowE (fun _ c x => c = f x) size lo hi w u xs) (h1 : ∀ x, (f x).all (·.oneCell') = true) (hroom : n + xs.length ≤ cap)
    (hk : ∀ w', w'.heap.size = w.heap.size → w'.ownsRow base el size (.slice (some ⟨g, 0, none⟩) (n + xs.length) cap) (n + xs.length) (cs ++ xs.flatMap f) → Chg (fun k => k = g) w w' → K (.slice (some ⟨g, 0, none⟩) (n + xs.length) cap) w') : Raw P ρ op w K := by
  have hr0 := hr
  obtain ⟨a, cap2, rfl, hcap, hx'⟩ := hr
  have key : ∀ w', (Builtin.append_ #[t, t] op.type #[.slice (some ⟨g, 0, none⟩) n cap, .slice a xs.length cap2]).run P w = .ok (.slice (some ⟨g, 0, none⟩) (n + xs.length) cap) w' → K (.slice (some ⟨g, 0, none⟩) (n + xs.length) cap) w' → Raw P ρ op w K := fun w' hrun hk => by
    refine ⟨_, w', ?_, hk⟩
    unfold execOp
    simp only [ho, resolve, invoke, builtin, Sem.run_bind, Sem.run_pure, Result.andThen_ok, List.map_toArray, List.map_cons, List.map_nil, hs, hx, hrun]
  have hu := (hG.look hl).1
  simp only [hd] at hu
  have hok := hG.look hj
  obtain ⟨i, hi', hz, hs', hbt⟩ := hok.info
  cases a with
  | none =>
    have hys : xs = [] := by
      cases xs with
      | nil => rfl
      | cons y r => obtain ⟨b, o, hb, _⟩ := hx' 0 y rfl; cases hb
    subst hys
    exact key w (run_app0 hG hl hd hj hown op.type) (hk w rfl (by simpa using hown) (Chg.refl _ _))
  | some a =>
    have hnews := row_news hf hpos hr0
    rcases hown.2 with ⟨h0, _⟩ | ⟨g', cap', cur, hv, hbg, hg, hnc, hcm, hcs, htake⟩
    · cases h0
    · cases hv
      have hlf := flat_len hf xs
      have hfit : n * i.size + (xs.flatMap f).length ≤ cur.size := by rw [hlf, hcs, hs', hsz, ← Nat.add_mul]; exact Nat.mul_le_mul_right _ hroom
      have hrun := run_append_room (P := P) w t op.type el i hu hi' g n cap cur hg a xs.length cap2 (xs.flatMap f) (by rw [hs', hsz]; exact hlf) hnews (fun u hu => by
        obtain ⟨x, -, hxu⟩ := List.mem_flatMap.1 hu
        exact List.all_eq_true.1 (h1 x) u hxu) hroom hfit
      obtain ⟨c1, c2⟩ := setRow_chg (c' := (cur.toList.take (n * i.size) ++ xs.flatMap f ++ cur.toList.drop (n * i.size + (xs.flatMap f).length)).toArray) hg
      refine key _ hrun (hk _ (by simp) ⟨by rw [List.length_append, hown.1, hlf, Nat.add_mul], .inr ⟨g, cap, _, rfl, hbg, c2, hroom, hcm, ?_, ?_⟩⟩ c1)
      · rw [hs', hsz] at hfit ⊢
        simp only [List.size_toArray, List.length_append, List.length_take, List.length_drop, Array.length_toList]
        omega
      · rw [hs', hsz, htake, ← show (cs ++ xs.flatMap f).length = (n + xs.length) * size by rw [List.length_append, hown.1, hlf, Nat.add_mul]]
        exact List.take_left

/-- an append of a row -/
theorem apV (hG : Agree P Γ) {ρ : Operand → Value} {op : Oper} {s x : Operand} {base : Nat} {cs : List Value} {u : Value} {K : Value → World → Prop} {ys : List α} (ho : op.op = .call { callee := .builtin .append, args := #[s, x], argTypes := #[t, t] }) (hs : ρ s = v) (hx : ρ x = u)
    (hl : look Γ t = some ti) (hd : ti.desc = .slice el) (hj : look Γ el = some tj) (hsz : tj.size = size) (hpos : 0 < size) (hown : w.ownsRow base el size v n cs) (hf : ∀ x, (f x).length = size)
    (hr : RowE (fun _ c x => c = f x) size lo hi w u ys) (h1 : ∀ x, (f x).all (·.oneCell') = true) (h63 : n + ys.length ≤ maxLen) (hby : (n + ys.length) * tj.bytes ≤ 140737488355328) (hb : base ≤ w.heap.size)
    (hk : ∀ v' w', w'.ownsRow base el size v' (n + ys.length) (cs ++ ys.flatMap f) → Chg (fun k => some k = v.ownBlock) w w' → K v' w') : Raw P ρ op w K := by
  obtain ⟨a, cap, rfl, hcap, hx'⟩ := hr
  have key : ∀ v' w', (Builtin.append_ #[t, t] op.type #[v, .slice a ys.length cap]).run P w = .ok v' w' → K v' w' → Raw P ρ op w K := fun v' w' hrun hk => by
    refine ⟨v', w', ?_, hk⟩
    unfold execOp
    simp only [ho, resolve, invoke, builtin, Sem.run_bind, Sem.run_pure, Result.andThen_ok, List.map_toArray, List.map_cons, List.map_nil, hs, hx, hrun]
  have hu := (hG.look hl).1
  simp only [hd] at hu
  have hok := hG.look hj
  obtain ⟨i, hi', hz, hs', hbt⟩ := hok.info
  cases a with
  | none =>
    have hys : ys = [] := by
      cases ys with
      | nil => rfl
      | cons y r => obtain ⟨b, o, hb, _⟩ := hx' 0 y rfl; cases hb
    subst hys
    refine key v w (run_app0 hG hl hd hj hown op.type) (hk v w (by simpa using hown) (Chg.refl _ _))
  | some a =>
    have hnews : ∀ (j : Nat) (u : Value), (ys.flatMap f)[j]? = some u → w.cell? (a.add j) = some u := by
      intro j u hu'
      have hj' := (List.getElem?_eq_some_iff.1 hu').1
      rw [flat_len hf] at hj'
      have hdiv : j / size < ys.length := Nat.div_lt_of_lt_mul (by rw [Nat.mul_comm]; exact hj')
      obtain ⟨b, o, hab, -, -, c, hc, hrd, rfl⟩ := hx' (j / size) ys[j / size] (List.getElem?_eq_getElem hdiv)
      cases hab
      have hmod : j % size < size := Nat.mod_lt _ hpos
      have hg := flat_get hf ys (j / size) ys[j / size] (List.getElem?_eq_getElem hdiv) (j % size) hmod
      have hjj : j / size * size + j % size = j := by rw [Nat.mul_comm]; exact Nat.div_add_mod j size
      rw [hjj, hu'] at hg
      have := hrd (j % size) u hg.symm
      rw [Nat.add_assoc, hjj] at this
      rw [Addr.add_mid]
      exact this
    obtain ⟨v', w', h, h2, h3, _⟩ := run_append_own (P := P) w base t op.type el i tj.zero size tj.bytes hu hi' hz (hs'.trans hsz) hbt (hok.2.2.trans hsz) hpos v n cs hown a ys.length cap (ys.flatMap f) (flat_len hf ys) hnews
      (fun u hu => by
        obtain ⟨x, -, hxu⟩ := List.mem_flatMap.1 hu
        exact List.all_eq_true.1 (h1 x) u hxu) h63 hby hb
    exact key v' w' h (hk v' w' h2 (grown_chg (run_drawn _ h) h3))

/-- what is lent: its own elements and marks behind -/
def Lent (el : TypeId) (f : α → List Value) (marks : List Value) (k lo hi : Nat) (w : World) (v : Value) (xs : List α) : Prop :=
  ∃ b, v = .slice (some ⟨b, 0, none⟩) xs.length (xs.length + k) ∧ lo ≤ b ∧ b < hi ∧ Own w b el (xs.flatMap f ++ marks)
theorem Lent.chg {S : Nat → Prop} (h : Lent el f marks k lo hi w v xs) (hc : Chg S w w') (hs : ∀ b, lo ≤ b → b < hi → ¬ S b) : Lent el f marks k lo hi w' v xs := by
  obtain ⟨b, hv, h1, h2, ho⟩ := h
  exact ⟨b, hv, h1, h2, hc.own ho (hs b h1 h2)⟩
theorem Lent.chgT {S : Nat → Prop} (h : Lent el f marks k lo hi w v xs) (hc : Chg S w w') (hs : ∀ b cs, Own w b el cs → ¬ S b) : Lent el f marks k lo hi w' v xs := by
  obtain ⟨b, hv, h1, h2, ho⟩ := h
  exact ⟨b, hv, h1, h2, hc.own ho (hs b _ ho)⟩
theorem Lent.mono {lo' hi' : Nat} (h : Lent el f marks k lo hi w v xs) (h1 : lo' ≤ lo) (h2 : hi ≤ hi') : Lent el f marks k lo' hi' w v xs := by
  obtain ⟨b, hv, h3, h4, ho⟩ := h
  exact ⟨b, hv, by omega, by omega, ho⟩
theorem Own.all {cs : List Value} {b : Nat} (h : Own w b t cs) : w.rangeAt b 0 cs := Own.at_ h (by rw [List.drop_zero, List.take_of_length_le (Nat.le_refl _)])
theorem flat_range {cs : List Value} {b i : Nat} {x : α} (hf : ∀ x, (f x).length = size) (hx : xs[i]? = some x) (ho : w.rangeAt b 0 (xs.flatMap f ++ cs)) : w.rangeAt b (0 + i * size) (f x) := by
  rw [Nat.zero_add]
  intro j u hu
  have hj := (List.getElem?_eq_some_iff.1 hu).1
  rw [hf] at hj
  have hg := flat_get hf xs i x hx j hj
  rw [hu] at hg
  have := ho (i * size + j) u (by rw [List.getElem?_append_left (List.getElem?_eq_some_iff.1 hg).1, hg])
  simpa using this
/-- its elements, as a row -/
theorem Lent.row (h : Lent el f marks k lo hi w v xs) (hf : ∀ x, (f x).length = size) : RowE (fun _ cs x => cs = f x) size lo hi w v xs := by
  obtain ⟨b, rfl, h1, h2, ho⟩ := h
  exact ⟨_, _, rfl, by omega, fun i x hx => ⟨b, 0, rfl, h1, h2, f x, hf x, flat_range hf hx (Own.all ho), rfl⟩⟩
/-- a mark behind -/
theorem lent_mark {b : Nat} (ho : Own w b el (xs.flatMap f ++ marks)) (hf : ∀ x, (f x).length = size) (j : Nat) {ms : List Value} (hm : (marks.drop (j * size)).take ms.length = ms) : w.rangeAt b (0 + (xs.length + j) * size) ms := by
  rw [Nat.zero_add]
  refine Own.at_ ho ?_
  rw [List.drop_append, List.drop_of_length_le (by rw [flat_len hf, Nat.add_mul]; omega), List.nil_append, flat_len hf, Nat.add_mul, Nat.add_sub_cancel_left]
  exact hm
/-- a row that is full -/
theorem ownsRow_full {base b n : Nat} {cs : List Value} (h : w.ownsRow base el size (.slice (some ⟨b, 0, none⟩) n n) n cs) : Own w b el cs ∧ base ≤ b := by
  rcases h.2 with ⟨h, _⟩ | ⟨g, cap', cur, h, h1, h2, h3, h4, h5, h6⟩
  · cases h
  · cases h
    have : cur = cs.toArray := by rw [← h6, List.take_of_length_le (by simp [h5])]
    rw [this] at h2
    exact ⟨h2, h1⟩

/-- a block that can be written over -/
def Well (el : TypeId) (size lo hi : Nat) (w : World) (v : Value) (n : Nat) : Prop :=
  ∃ b cap cur, v = .slice (some ⟨b, 0, none⟩) n cap ∧ lo ≤ b ∧ b < hi ∧ n ≤ cap ∧ cap < 4611686018427387904 ∧ Own w b el cur ∧ cur.length = cap * size
theorem Lent.well (h : Lent el f marks k lo hi w v xs) (hf : ∀ x, (f x).length = size) (hm : marks.length = k * size) (hl : xs.length + k < 4611686018427387904) : Well el size lo hi w v xs.length := by
  obtain ⟨b, rfl, h1, h2, ho⟩ := h
  exact ⟨b, _, _, rfl, h1, h2, by omega, hl, ho, by rw [List.length_append, flat_len hf, hm, Nat.add_mul]⟩
theorem Well.chg {S : Nat → Prop} (h : Well el size lo hi w v n) (hc : Chg S w w') (hs : ∀ b, lo ≤ b → b < hi → ¬ S b) : Well el size lo hi w' v n := by
  obtain ⟨b, cap, cur, hv, h1, h2, h3, h4, h5, h6⟩ := h
  exact ⟨b, cap, cur, hv, h1, h2, h3, h4, hc.heap h5 (hs b h1 h2), h6⟩
theorem lay_take : ∀ (vs : List Value) (cs : List Value) (o : Nat), o + vs.length ≤ cs.length → (lay cs o vs).take (o + vs.length) = cs.take o ++ vs
  | [], cs, o, _ => by simp [lay]
  | u :: r, cs, o, h => by
    simp only [List.length_cons] at h
    simp only [lay, List.length_cons]
    rw [show o + (r.length + 1) = o + 1 + r.length by omega, lay_take r (cs.set o u) (o + 1) (by simp; omega)]
    rw [List.take_succ_eq_append_getElem (by simp; omega)]
    simp [List.take_set_of_le]

/-- blocks keep their kind, their size and what their cells are -/
def Shp (Ty : TypeId → List Value → Prop) (w w' : World) : Prop := ∀ b t cs, Own w b t cs → Ty t cs → ∃ cs', Own w' b t cs' ∧ cs'.length = cs.length ∧ Ty t cs'
variable {Ty : TypeId → List Value → Prop}
theorem Shp.refl (w : World) : Shp Ty w w := fun _ _ cs h hT => ⟨cs, h, rfl, hT⟩
theorem Shp.trans {a b c : World} (h : Shp Ty a b) (k : Shp Ty b c) : Shp Ty a c := fun x t cs ho hT => by
  obtain ⟨c1, h1, l1, t1⟩ := h x t cs ho hT
  obtain ⟨c2, h2, l2, t2⟩ := k x t c1 h1 t1
  exact ⟨c2, h2, by omega, t2⟩
theorem Chg.shp (h : Kp w w') : Shp Ty w w' := fun _ _ cs ho hT => ⟨cs, h.own ho id, rfl, hT⟩
theorem shp_of {b : Nat} {cur cur' : List Value} (h : Chg (fun k => k = b) w w') (ho : Own w b el cur) (ho' : Own w' b el cur') (hl : cur'.length = cur.length) (hT : Ty el cur') : Shp Ty w w' := fun x t cs hx hTx => by
  by_cases hb : x = b
  · subst hb
    have := Option.some.inj ((show w.heap[x]? = _ from ho).symm.trans hx)
    injection this with h1 h2 h3
    subst h2
    exact ⟨cur', ho', by rw [hl]; simpa using congrArg Array.size h1, hT⟩
  · exact ⟨cs, h.own hx hb, rfl, hTx⟩
/-- .. and whose cells are of their kind -/
def WellT (Ty : TypeId → List Value → Prop) (el : TypeId) (size lo hi : Nat) (w : World) (v : Value) (n : Nat) : Prop :=
  ∃ b cap cur, v = .slice (some ⟨b, 0, none⟩) n cap ∧ lo ≤ b ∧ b < hi ∧ n ≤ cap ∧ cap < 4611686018427387904 ∧ Own w b el cur ∧ cur.length = cap * size ∧ Ty el cur
theorem WellT.well (h : WellT Ty el size lo hi w v n) : Well el size lo hi w v n := by
  obtain ⟨b, cap, cur, hv, h1, h2, h3, h4, h5, h6, h7⟩ := h
  exact ⟨b, cap, cur, hv, h1, h2, h3, h4, h5, h6⟩
theorem WellT.shp (h : WellT Ty el size lo hi w v n) (hs : Shp Ty w w') : WellT Ty el size lo hi w' v n := by
  obtain ⟨b, cap, cur, hv, h1, h2, h3, h4, h5, h6, h7⟩ := h
  obtain ⟨c', g1, g2, g3⟩ := hs b el cur h5 h7
  exact ⟨b, cap, c', hv, h1, h2, h3, h4, g1, by omega, g3⟩
theorem WellT.chg {S : Nat → Prop} (h : WellT Ty el size lo hi w v n) (hc : Chg S w w') (hs : ∀ b, lo ≤ b → b < hi → ¬ S b) : WellT Ty el size lo hi w' v n := by
  obtain ⟨b, cap, cur, hv, h1, h2, h3, h4, h5, h6, h7⟩ := h
  exact ⟨b, cap, cur, hv, h1, h2, h3, h4, hc.heap h5 (hs b h1 h2), h6, h7⟩
theorem Lent.wellT (h : Lent el f marks k lo hi w v xs) (hf : ∀ x, (f x).length = size) (hm : marks.length = k * size) (hl : xs.length + k < 4611686018427387904) (hT : Ty el (xs.flatMap f ++ marks)) : WellT Ty el size lo hi w v xs.length := by
  obtain ⟨b, rfl, h1, h2, ho⟩ := h
  exact ⟨b, _, _, rfl, h1, h2, by omega, hl, ho, by rw [List.length_append, flat_len hf, hm, Nat.add_mul], hT⟩
/-- what it holds then, as a row -/
theorem WellT.row (h : WellT Ty el size lo hi w v n) (hf : ∀ x, (f x).length = size) (hpos : 0 < size) {Q : α → Prop} (hT : ∀ cs, Ty el cs → ∃ ys : List α, cs = ys.flatMap f ∧ ∀ y ∈ ys, Q y) : ∃ ys : List α, ys.length = n ∧ (∀ y ∈ ys, Q y) ∧ RowE (fun _ cs x => cs = f x) size lo hi w v ys := by
  obtain ⟨b, cap, cur, rfl, h1, h2, h3, h4, h5, h6, h7⟩ := h
  obtain ⟨ys, rfl, hQ⟩ := hT cur h7
  rw [flat_len hf] at h6
  have hlen : ys.length = cap := Nat.eq_of_mul_eq_mul_right hpos h6
  refine ⟨ys.take n, by simp; omega, fun y hy => hQ y (List.mem_of_mem_take hy), _, cap, by simp; omega, by simp; omega, fun i x hx => ⟨b, 0, rfl, h1, h2, f x, hf x, ?_, rfl⟩⟩
  have hx' : ys[i]? = some x := by
    rw [List.getElem?_take] at hx
    split at hx
    · exact hx
    · cases hx
  exact flat_range (cs := []) hf hx' (by rw [List.append_nil]; exact Own.all h5)
end
end Go.Au
namespace Go.Au
open Go Go.RowKit
theorem RowE.lo1 {α : Type} {E : World → List Value → α → Prop} {size lo hi q n c : Nat} {w : World} {xs : List α} (h : RowE E size lo hi w (.slice (some ⟨q, 0, none⟩) n c) xs) {lo' : Nat} (hq : lo' ≤ q) : RowE E size lo' hi w (.slice (some ⟨q, 0, none⟩) n c) xs := by
  obtain ⟨a, cap, hv, hcap, hx⟩ := h
  refine ⟨a, cap, hv, hcap, fun i x hi => ?_⟩
  obtain ⟨b, o, rfl, h1, h2, h3⟩ := hx i x hi
  cases hv
  exact ⟨q, 0, rfl, hq, h2, h3⟩
end Go.Au
