/- Own text of this workplace: a part of the proofs of this place's statements. -/
import Derived.Test.YtjibhchnhkjgkaaA2
set_option linter.unusedVariables false
set_option linter.unusedSimpArgs false
set_option linter.unusedSectionVars false
namespace Go.Au
open Go Go.RowKit

theorem Chg.refl (S : Nat → Prop) (w : World) : Chg S w w := ⟨rfl, rfl, rfl, Nat.le_refl _, fun _ _ _ => rfl⟩
theorem Chg.trans {S : Nat → Prop} {a b c : World} (h : Chg S a b) (k : Chg S b c) : Chg S a c :=
  ⟨k.os.trans h.os, k.tape.trans h.tape, k.output.trans h.output, Nat.le_trans h.size k.size, fun i hi hs => (k.block i (Nat.lt_of_lt_of_le hi h.size) hs).trans (h.block i hi hs)⟩
theorem Chg.mono {S S' : Nat → Prop} {a b : World} (h : Chg S a b) (hs : ∀ k, S k → S' k) : Chg S' a b := ⟨h.os, h.tape, h.output, h.size, fun i hi hn => h.block i hi fun hk => hn (hs i hk)⟩
theorem Chg.drew {S : Nat → Prop} {a b : World} (h : Chg S a b) : Chg S a b.drew := ⟨h.os, h.tape, h.output, h.size, h.block⟩
theorem Chg.alloc (S : Nat → Prop) (w : World) (o : Obj) : Chg S w (w.alloc o) := ⟨rfl, rfl, rfl, by simp, fun k hk _ => Below.heap_alloc w o k hk⟩

abbrev Kp := Chg (fun _ => False)
/-- what a world may turn to while operations go in whatever order -/
structure Pre (S : World → World → Prop) : Prop where
  kp : ∀ {a b : World}, Kp a b → S a b
  trans : ∀ {a b c : World}, S a b → S b c → S a c
theorem Pre.refl {S : World → World → Prop} (h : Pre S) (w : World) : S w w := h.kp (Chg.refl _ w)
theorem preChg (S : Nat → Prop) : Pre (Chg S) := ⟨fun h => h.mono fun _ hf => hf.elim, fun h k => h.trans k⟩

/-- a predicate of worlds -/
abbrev DP := World → Prop
def getDs : List (Nat × DP) → Nat → DP
  | [], _ => fun _ => True
  | (i, d) :: r, j => cond (Nat.beq j i) d (getDs r j)

/-- what is done ahead of an operation, as the bits of a number -/
def maskOf (ms : List Nat) : List Edge → Nat
  | [] => 0
  | e :: r => cond (Region.binds .any e) (Nat.lor (Nat.lor (2 ^ e.on) ((ms[e.on]?).getD 0)) (maskOf ms r)) (maskOf ms r)
def masksFrom : List Nat → List Oper → List Nat
  | ms, [] => ms
  | ms, o :: r => masksFrom (ms ++ [maskOf ms o.after.toList]) r
def masks (ops : List Oper) : List Nat := masksFrom [] ops

/-- an operation that reads or makes memory, in whatever order: τ says which outcomes there are -/
structure Mk (S : World → World → Prop) (w0 : World) (Dn : World → Prop) (sem : World → (Value → World → Prop) → Prop) (K : Value → DP → Prop) : Prop where
  h : ∃ (τ : Type) (_ : Nonempty τ) (f : τ → Value) (F : τ → World → Prop),
    (∀ y W W', F y W → S W W' → F y W') ∧
    (∀ W, S w0 W → Dn W → sem W (fun v W' => S W W' ∧ ∃ y, v = f y ∧ F y W')) ∧
    ∀ y (D : DP), (∀ W, D W → F y W) → K (f y) D

def DnF (m : Nat) (Ds : List (Nat × DP)) (W : World) : Prop := ∀ j, m.testBit j = true → getDs Ds j W

def addD (Ds : List (Nat × DP)) (i : Nat) : Option DP → List (Nat × DP)
  | none => Ds
  | some D => (i, D) :: Ds

def opr (P : Program) (Γ : List (Nat × TI)) (S : World → World → Prop) (w0 : World) (Dn : World → Prop) (e : Env) (o : Oper) (K : Value → Option DP → Prop) : Prop := match isPure o.op with
  | true => opP P Γ e o False fun v => K v none
  | false => Mk S w0 Dn (op1 P Γ e o) fun v D => K v (some D)

/-- operations in whatever order their edges allow: as the walk reckons it -/
noncomputable def VCr (P : Program) (Γ : List (Nat × TI)) (S : World → World → Prop) (w0 : World) (ops : List Oper) (ms : List Nat) (Q : Env → List (Nat × DP) → Prop) (l : List (Nat × Oper)) : List (Nat × DP) → Env → Prop :=
  List.rec (motive := fun _ => List (Nat × DP) → Env → Prop) (fun Ds e => Q e Ds)
    (fun p _ ih Ds e => grd ops e p.2 (opr P Γ S w0 (DnF ((ms[p.1]?).getD 0) Ds) e p.2 fun v D => ih (addD Ds p.1 D) (putE e p.2.dst v)) (ih Ds (putE e p.2.dst undef))) l
theorem VCr_cons (P : Program) (Γ : List (Nat × TI)) (S : World → World → Prop) (w0 : World) (ops : List Oper) (ms : List Nat) (Q : Env → List (Nat × DP) → Prop) (i : Nat) (o : Oper) (rest : List (Nat × Oper)) (Ds : List (Nat × DP)) (e : Env) :
    VCr P Γ S w0 ops ms Q ((i, o) :: rest) Ds e = grd ops e o (opr P Γ S w0 (DnF ((ms[i]?).getD 0) Ds) e o fun v D => VCr P Γ S w0 ops ms Q rest (addD Ds i D) (putE e o.dst v))
      (VCr P Γ S w0 ops ms Q rest Ds (putE e o.dst undef)) := rfl

/-- an operation with its number; what it came to, if it is done -/
abbrev Nd := Nat × Oper × Option (Value × Option DP)

/-- the same, where one operation (xx: this one; px: it or what is ahead of it) may break U -/
structure MkU (S : World → World → Prop) (U : World → Prop) (px xx : Bool) (w0 : World) (Dn : World → Prop) (sem : World → (Value → World → Prop) → Prop) (K : Value → DP → Prop) : Prop where
  h : ∃ (τ : Type) (_ : Nonempty τ) (f : τ → Value) (F : τ → World → Prop),
    (∀ y W W', F y W → S W W' → F y W') ∧
    (∀ W, S w0 W → Dn W → (px = true → U W) → sem W (fun v W' => (S W W' ∧ (xx = false → U W → U W')) ∧ ∃ y, v = f y ∧ F y W')) ∧
    ∀ y (D : DP), (∀ W, D W → F y W) → K (f y) D
def oprS (P : Program) (Γ : List (Nat × TI)) (S : World → World → Prop) (U : World → Prop) (px xx : Bool) (w0 : World) (Dn : World → Prop) (e : Env) (o : Oper) (K : Value → Option DP → Prop) : Prop :=
  (isPure o.op = true ∧ ∃ v, Pure P (ev e) o v ∧ K v none) ∨ (isPure o.op = false ∧ MkU S U px xx w0 Dn (Does P (ev e) o) fun v D => K v (some D))
def pxOf (ms : List Nat) (x0 i : Nat) : Bool := Nat.beq i x0 || ((ms[x0]?).getD 0).testBit i

/-- the same, as it is: some operations are done -/
def VCs (P : Program) (Γ : List (Nat × TI)) (S : World → World → Prop) (U : World → Prop) (x0 : Nat) (w0 : World) (ops : List Oper) (ms : List Nat) (Q : Env → List (Nat × DP) → Prop) : List Nd → List (Nat × DP) → Env → Prop
  | [], Ds, e => Q e Ds
  | (i, o, some (v, D)) :: rest, Ds, e => VCs P Γ S U x0 w0 ops ms Q rest (addD Ds i D) (putE e o.dst v)
  | (i, o, none) :: rest, Ds, e => grd ops e o (oprS P Γ S U (pxOf ms x0 i) (Nat.beq i x0) w0 (DnF ((ms[i]?).getD 0) Ds) e o fun v D => VCs P Γ S U x0 w0 ops ms Q rest (addD Ds i D) (putE e o.dst v))
      (VCs P Γ S U x0 w0 ops ms Q rest Ds (putE e o.dst undef))

section
variable {P : Program} {Γ : List (Nat × TI)} {e : Env} {w : World} {S : World → World → Prop} {U : World → Prop} {x0 : Nat} {w0 : World} {ops : List Oper} {ms : List Nat} {Q : Env → List (Nat × DP) → Prop}

theorem Mk.mono {Dn sem} {K K' : Value → DP → Prop} (h : Mk S w0 Dn sem K) (hk : ∀ v D, K v D → K' v D) : Mk S w0 Dn sem K' := by
  obtain ⟨τ, hn, f, F, h1, h2, h3⟩ := h
  exact ⟨τ, hn, f, F, h1, h2, fun y D hD => hk _ _ (h3 y D hD)⟩

theorem MkU.mono {px xx Dn sem} {K K' : Value → DP → Prop} (h : MkU S U px xx w0 Dn sem K) (hk : ∀ v D, K v D → K' v D) : MkU S U px xx w0 Dn sem K' := by
  obtain ⟨τ, hn, f, F, h1, h2, h3⟩ := h
  exact ⟨τ, hn, f, F, h1, h2, fun y D hD => hk _ _ (h3 y D hD)⟩
theorem Mk.toU {px xx Dn} {e : Env} {o : Oper} {K : Value → DP → Prop} (hG : Agree P Γ) (h : Mk S w0 Dn (op1 P Γ e o) K) : MkU S (fun _ => True) px xx w0 Dn (Does P (ev e) o) K := by
  obtain ⟨τ, hn, f, F, h1, h2, h3⟩ := h
  exact ⟨τ, hn, f, F, h1, fun W a b _ => (op1_does hG (h2 W a b)).mono fun v W' ⟨c, d⟩ => ⟨⟨c, fun _ _ => trivial⟩, d⟩, h3⟩

theorem oprS_mono {px xx Dn} {o : Oper} {K K' : Value → Option DP → Prop} (h : oprS P Γ S U px xx w0 Dn e o K) (hk : ∀ v D, K v D → K' v D) : oprS P Γ S U px xx w0 Dn e o K' := by
  rcases h with ⟨hi, v, hp, h⟩ | ⟨hi, h⟩
  · exact .inl ⟨hi, v, hp, hk _ _ h⟩
  · exact .inr ⟨hi, h.mono fun v D => hk v (some D)⟩

theorem grd_cases {o : Oper} {a b : Prop} (h : grd ops e o a b) : (a ∧ ∀ a' b' : Prop, grd ops e o a' b' ↔ a') ∨ (b ∧ ∀ a' b' : Prop, grd ops e o a' b' ↔ b') := by
  unfold grd at *
  split at h
  · exact .inl ⟨h, fun a' b' => Iff.rfl⟩
  · split at h
    · split at h
      · exact .inl ⟨h, fun a' b' => Iff.rfl⟩
      · exact .inr ⟨h, fun a' b' => Iff.rfl⟩
      · exact .inr ⟨h, fun a' b' => Iff.rfl⟩
      · exact .inl ⟨h, fun a' b' => Iff.rfl⟩
      · exact .inr ⟨h, fun a' b' => Iff.rfl⟩
      · exact h.elim
    · exact h.elim

theorem grd_mono {o : Oper} {a b a' b' : Prop} (h : grd ops e o a b) (ha : a → a') (hb : b → b') : grd ops e o a' b' := by
  rcases grd_cases h with ⟨h, k⟩ | ⟨h, k⟩
  · exact (k _ _).2 (ha h)
  · exact (k _ _).2 (hb h)

theorem VCr_to (hG : Agree P Γ) : ∀ {l : List (Nat × Oper)} {Ds e}, VCr P Γ S w0 ops ms Q l Ds e → VCs P Γ S (fun _ => True) x0 w0 ops ms Q (l.map fun p => (p.1, p.2, none)) Ds e
  | [], Ds, e, h => h
  | (i, o) :: rest, Ds, e, h => by
    rw [VCr_cons] at h
    simp only [List.map_cons, VCs]
    refine grd_mono h ?_ (fun h => VCr_to hG h)
    intro h
    unfold opr at h
    split at h
    · rename_i hi
      rcases opP_spec (P := P) hG h with h | ⟨v, hk, hp⟩
      · exact h.elim
      · exact .inl ⟨hi, v, hp, VCr_to hG hk⟩
    · rename_i hi
      exact .inr ⟨hi, (h.mono fun v D h => VCr_to hG h).toU hG⟩

/-- an outcome at all -/
theorem oprS_some {px xx Dn} {o : Oper} {K : Value → Option DP → Prop} (h : oprS P Γ S U px xx w0 Dn e o K) : ∃ v D, K v D := by
  rcases h with ⟨_, v, _, h⟩ | ⟨_, τ, ⟨y⟩, f, F, _, _, h3⟩
  · exact ⟨v, _, h⟩
  · exact ⟨f y, _, h3 y (fun _ => False) fun _ h => h.elim⟩

/-- what a slot holds when these are gone through, if it is known -/
def slotv : List Nd → Env → Nat → Option Value
  | [], e, s => some (e s)
  | (_, o, d) :: r, e, s => if o.dst = some s then d.map (·.1) else slotv r e s

/-- what an operation looks at -/
def looks (ops : List Oper) (o : Oper) : List Nat :=
  (o.op.operands.toList.filterMap fun | .tmp t => some t | _ => none) ++ (match o.guard with
    | some (j, _) => (gslot ops j).toList
    | none => [])

def Agr (ops : List Oper) (A : List Nd) (e : Env) (ρ : Env) (o : Oper) : Prop := ∀ s ∈ looks ops o, slotv A e s = some (ρ s)

theorem ev_congr {o : Oper} {e e' : Env} (h : ∀ s ∈ looks ops o, e s = e' s) : ∀ x ∈ o.op.operands, ev e x = ev e' x := by
  intro x hx
  cases x with
  | tmp t => exact h t (List.mem_append_left _ (List.mem_filterMap.2 ⟨.tmp t, by simpa using hx, rfl⟩))
  | _ => rfl

theorem exec_congr {o : Oper} {e e' : Env} (hs : isSel o.op = false) (h : ∀ s ∈ looks ops o, e s = e' s) : execOp (ev e) o = execOp (ev e') o :=
  execOp_congr o (fun cs b hb => by rw [hb] at hs; cases hs) (ev_congr h)

theorem grd_congr {o : Oper} {e e' : Env} (h : ∀ s ∈ looks ops o, e s = e' s) (a b : Prop) : grd ops e o a b ↔ grd ops e' o a b := by
  unfold grd
  cases hg : o.guard with
  | none => exact Iff.rfl
  | some p =>
    obtain ⟨j, c⟩ := p
    simp only
    cases hs : gslot ops j with
    | none => exact Iff.rfl
    | some s =>
      have : e s = e' s := h s (List.mem_append_right _ (by simp [hg, hs]))
      simp only [this]

/-- operations, not pure, whose run is no call -/
def loudSem : Op → Bool
  | .load .. | .store .. | .alloc _ | .box .. | .makeMap .. | .buildSlice .. | .makeSlice .. | .slice .. | .index .. | .lookup .. | .mapUpdate .. | .mapEntry .. | .entryStore .. | .field .. | .makeInterface .. | .typeAssert .. | .range .. | .next .. => true
  | .call c => match c.callee with
    | .builtin .append | .builtin .copy | .builtin .max | .builtin .min | .builtin .delete | .builtin .clear | .builtin .len => true
    | _ => false
  | _ => false

theorem noEnter {o : Oper} (h : loudSem o.op = true) (ρ : Operand → Value) (w w' : World) (g : FuncId) (args : Array Value) : (execOp ρ o).run P w ≠ .ok (.enter g args) w' := by
  have val : ∀ s : Sem Value, execOp ρ o = (do let x ← s; pure (Next.value x)) → (execOp ρ o).run P w ≠ .ok (.enter g args) w' := by
    intro s hs he
    rw [hs, Sem.run_bind] at he
    cases hr : s.run P w <;> rw [hr] at he <;> simp [Result.andThen] at he
  have unt : ∀ s : Sem Unit, execOp ρ o = (do s; pure Next.skip) → (execOp ρ o).run P w ≠ .ok (.enter g args) w' := by
    intro s hs he
    rw [hs, Sem.run_bind] at he
    cases hr : s.run P w <;> rw [hr] at he <;> simp [Result.andThen] at he
  cases ho : o.op <;> rw [ho] at h <;> simp only [loudSem, reduceCtorEq, Bool.false_eq_true] at h
  case call c =>
    have he : execOp ρ o = (do let d ← resolve ρ c o.type; invoke d.target d.args) := by unfold execOp; rw [ho]
    split at h <;> rename_i hc <;> first
      | (simp only [resolve, hc, pure_bind, invoke, builtin] at he; exact val _ he)
      | cases h
  all_goals first
    | exact val _ (by unfold execOp; rw [ho])
    | exact unt _ (by unfold execOp; rw [ho])

theorem noRound {o : Oper} (h : loudSem o.op = true) (ρ : Operand → Value) (w w' : World) (l : Nat) (f : FuncId) (tmps : Array Value) (as bs : Code) : (execOp ρ o).run P w ≠ .ok (.round l f tmps as bs) w' := by
  have val : ∀ s : Sem Value, execOp ρ o = (do let x ← s; pure (Next.value x)) → (execOp ρ o).run P w ≠ .ok (.round l f tmps as bs) w' := by
    intro s hs he
    rw [hs, Sem.run_bind] at he
    cases hr : s.run P w <;> rw [hr] at he <;> simp [Result.andThen] at he
  have unt : ∀ s : Sem Unit, execOp ρ o = (do s; pure Next.skip) → (execOp ρ o).run P w ≠ .ok (.round l f tmps as bs) w' := by
    intro s hs he
    rw [hs, Sem.run_bind] at he
    cases hr : s.run P w <;> rw [hr] at he <;> simp [Result.andThen] at he
  cases ho : o.op <;> rw [ho] at h <;> simp only [loudSem, reduceCtorEq, Bool.false_eq_true] at h
  case call c =>
    have he : execOp ρ o = (do let d ← resolve ρ c o.type; invoke d.target d.args) := by unfold execOp; rw [ho]
    split at h <;> rename_i hc <;> first
      | (simp only [resolve, hc, pure_bind, invoke, builtin] at he; exact val _ he)
      | cases h
  all_goals first
    | exact val _ (by unfold execOp; rw [ho])
    | exact unt _ (by unfold execOp; rw [ho])

def RunsTo (P : Program) (ρ : Operand → Value) (o : Oper) (w : World) (v : Value) (w' : World) : Prop :=
  (execOp ρ o).run P w = .ok (.value v) w' ∨ ((execOp ρ o).run P w = .ok .skip w' ∧ v = undef)

theorem RunsTo.one {ρ o w v w' v2 w2} (h : RunsTo P ρ o w v w') (k : RunsTo P ρ o w v2 w2) : v2 = v ∧ w2 = w' := by
  rcases h with h | ⟨h, rfl⟩ <;> rcases k with k | ⟨k, rfl⟩ <;> rw [h] at k <;> simp at k
  · obtain ⟨rfl, rfl⟩ := k; exact ⟨rfl, rfl⟩
  · subst k; exact ⟨rfl, rfl⟩

theorem Does.runs {ρ o w} {K : Value → World → Prop} (h : Does P ρ o w K) (hs : loudSem o.op = true) : ∃ v w', RunsTo P ρ o w v w' ∧ K v w' := by
  rcases h with ⟨v, w', h, k⟩ | ⟨w', h, k⟩ | ⟨g, args, h, k⟩ | ⟨l, f, tmps, as, bs, h, k⟩
  · exact ⟨v, w', .inl h, k⟩
  · exact ⟨_, w', .inr ⟨h, rfl⟩, k⟩
  · exact absurd h (noEnter hs _ _ _ _ _)
  · exact absurd h (noRound hs _ _ _ _ _ _ _ _)

theorem RunsTo.does {ρ o w v w'} {K : Value → World → Prop} (h : RunsTo P ρ o w v w') (k : K v w') : Does P ρ o w K := by
  rcases h with h | ⟨h, rfl⟩
  · exact .inl ⟨v, w', h, k⟩
  · exact .inr (.inl ⟨w', h, k⟩)

/-- the one outcome of an operation that is no call -/
def Res (P : Program) (S : World → World → Prop) (ops : List Oper) (ρ : Env) (o : Oper) (w : World) (v : Value) (od : Option DP) (w' : World) : Prop :=
  (grd ops ρ o True False ∧ RunsTo P (ev ρ) o w v w' ∧ S w w' ∧ od = (if isPure o.op = true then none else some (S w'))) ∨
  (grd ops ρ o False True ∧ v = undef ∧ w' = w ∧ od = none)

theorem grd_tf {ρ : Env} {o : Oper} (h : grd ops ρ o True False) (k : grd ops ρ o False True) : False := by
  rcases grd_cases h with ⟨_, h'⟩ | ⟨h', _⟩
  · exact (h' _ _).1 k
  · exact h'

theorem Res.one {ρ o w v od w' v2 od2 w2} (h : Res P S ops ρ o w v od w') (k : Res P S ops ρ o w v2 od2 w2) : v2 = v ∧ od2 = od ∧ w2 = w' := by
  rcases h with ⟨h1, h2, _, h4⟩ | ⟨h1, h2, h3, h4⟩ <;> rcases k with ⟨k1, k2, _, k4⟩ | ⟨k1, k2, k3, k4⟩
  · obtain ⟨rfl, rfl⟩ := h2.one k2
    exact ⟨rfl, by rw [h4, k4], rfl⟩
  · exact (grd_tf h1 k1).elim
  · exact (grd_tf k1 h1).elim
  · exact ⟨by rw [h2, k2], by rw [h4, k4], by rw [h3, k3]⟩

theorem getDs_add {Ds : List (Nat × DP)} {i : Nat} {D : Option DP} {m : Nat} (h : DnF m Ds w) (hD : ∀ d, D = some d → m.testBit i = true → d w) : DnF m (addD Ds i D) w := by
  intro j hj
  cases D with
  | none => exact h j hj
  | some d =>
    simp only [addD, getDs]
    cases hb : Nat.beq j i with
    | false => exact h j hj
    | true =>
      have := Nat.eq_of_beq_eq_true hb
      subst this
      exact hD d rfl hj

theorem slotv_congr {s : Nat} : ∀ (A : List Nd) {e e' : Env}, e s = e' s → slotv A e s = slotv A e' s
  | [], e, e', h => by simp [slotv, h]
  | (i, o, d) :: r, e, e', h => by simp only [slotv]; split; rfl; exact slotv_congr r h
theorem slotv_free {s : Nat} : ∀ (A : List Nd) (e : Env), (∀ n ∈ A, n.2.1.dst ≠ some s) → slotv A e s = some (e s)
  | [], e, _ => rfl
  | (i, o, d) :: r, e, h => by
    simp only [slotv]
    rw [if_neg (h _ List.mem_cons_self)]
    exact slotv_free r e fun n hn => h n (List.mem_cons_of_mem _ hn)
theorem putE_other {e : Env} {d : Option Nat} {v : Value} {s : Nat} (h : d ≠ some s) : putE e d v s = e s := by
  cases d with
  | none => rfl
  | some d =>
    simp only [putE, upd]
    rw [beqf (fun hc => h (by rw [hc]))]
    rfl
theorem putE_same {e : Env} {v : Value} {s : Nat} : putE e (some s) v s = v := by
  simp only [putE, upd]
  rw [show Nat.beq s s = true from Nat.beq_refl s]
  rfl

/-- each slot is written once -/
def Once (A : List Nd) : Prop := A.Pairwise fun a b => ∀ s, a.2.1.dst = some s → b.2.1.dst ≠ some s

theorem slotv_done {s : Nat} {i : Nat} {o : Oper} {v : Value} {D : Option DP} {A : List Nd} {e : Env} (h : Once ((i, o, some (v, D)) :: A)) : slotv A (putE e o.dst v) s = slotv ((i, o, some (v, D)) :: A) e s := by
  simp only [slotv]
  split
  · rename_i hd
    rw [slotv_free A _ fun n hn => (List.pairwise_cons.1 h).1 n hn s hd, hd, putE_same]
    rfl
  · rename_i hd
    exact slotv_congr A (putE_other hd)

/-- AN OPERATION THAT IS NO CALL GOES AHEAD OF OTHERS. -/
theorem exec_sem (hG : Agree P Γ) (hS : Pre S) {i : Nat} {o : Oper} {B : List Nd} {ρ : Env} (hs : isPure o.op = true ∨ loudSem o.op = true) (hsel : isSel o.op = false) (hw : S w0 w) (hux : pxOf ms x0 i = true → U w) :
    ∀ (A : List Nd) (Ds : List (Nat × DP)) (e : Env), Once A → VCs P Γ S U x0 w0 ops ms Q (A ++ (i, o, none) :: B) Ds e → Agr ops A e ρ o → DnF ((ms[i]?).getD 0) Ds w →
      (∀ n ∈ A, match n.2.2 with | some (_, some D) => D w | some (_, none) => True | none => ((ms[i]?).getD 0).testBit n.1 = false) →
      ∃ v od w', Res P S ops ρ o w v od w' ∧ (Nat.beq i x0 = false → U w → U w') ∧ VCs P Γ S U x0 w0 ops ms Q (A ++ (i, o, some (v, od)) :: B) Ds e := by
  intro A
  induction A with
  | nil =>
    intro Ds e _ h hA hD _
    have hA' : ∀ s ∈ looks ops o, e s = ρ s := fun s hm => Option.some.inj (hA s hm)
    have hex := exec_congr hsel hA'
    simp only [List.nil_append, VCs] at h
    rcases grd_cases h with ⟨h, hg⟩ | ⟨h, hg⟩
    · have hgr : grd ops ρ o True False := (grd_congr hA' _ _).1 ((hg _ _).2 trivial)
      rcases h with ⟨hi, v, hp, hk⟩ | ⟨hi, τ, hn, f, F, h1, h2, h3⟩
      · refine ⟨v, none, w, .inl ⟨hgr, .inl ?_, hS.refl _, by rw [if_pos hi]⟩, fun _ h => h, hk⟩
        rw [← hex]; exact hp w
      · have hl : loudSem o.op = true := hs.resolve_left (by rw [hi]; simp)
        obtain ⟨v, w', hr, ⟨hc, hu⟩, y, rfl, hF⟩ := (h2 w hw hD hux).runs hl
        refine ⟨f y, some (S w'), w', .inl ⟨hgr, ?_, hc, by rw [if_neg (by rw [hi]; simp)]⟩, hu, ?_⟩
        · unfold RunsTo at *; rw [← hex]; exact hr
        · exact h3 y _ fun W hW => h1 y w' W hF hW
    · exact ⟨undef, none, w, .inr ⟨(grd_congr hA' _ _).1 ((hg _ _).2 trivial), rfl, rfl, rfl⟩, fun _ h => h, h⟩
  | cons a A ih =>
    obtain ⟨ia, oa, da⟩ := a
    intro Ds e ho h hA hD hn
    have ho' := (List.pairwise_cons.1 ho).2
    have hn' := hn _ List.mem_cons_self
    have hnA := fun n hm => hn n (List.mem_cons_of_mem _ hm)
    cases da with
    | some vd =>
      obtain ⟨va, Da⟩ := vd
      simp only [List.cons_append, VCs] at h ⊢
      refine ih _ _ ho' h ?_ (getDs_add hD ?_) hnA
      · intro s hm
        rw [slotv_done ho]
        exact hA s hm
      · intro d hd _
        subst hd
        exact hn'
    | none =>
      simp only [List.cons_append, VCs] at h ⊢
      have hAd : ∀ v, Agr ops A (putE e oa.dst v) ρ o := by
        intro v s hm
        have := hA s hm
        simp only [slotv] at this
        split at this
        · cases this
        · rename_i hd
          rw [← this]
          exact slotv_congr A (putE_other hd)
      have key : ∀ v D, VCs P Γ S U x0 w0 ops ms Q (A ++ (i, o, none) :: B) (addD Ds ia D) (putE e oa.dst v) →
          ∃ v' od w', Res P S ops ρ o w v' od w' ∧ (Nat.beq i x0 = false → U w → U w') ∧ VCs P Γ S U x0 w0 ops ms Q (A ++ (i, o, some (v', od)) :: B) (addD Ds ia D) (putE e oa.dst v) := fun v D hv =>
        ih _ _ ho' hv (hAd v) (getDs_add hD fun d _ hb => by rw [hn'] at hb; cases hb) hnA
      have key0 : VCs P Γ S U x0 w0 ops ms Q (A ++ (i, o, none) :: B) Ds (putE e oa.dst undef) →
          ∃ v' od w', Res P S ops ρ o w v' od w' ∧ (Nat.beq i x0 = false → U w → U w') ∧ VCs P Γ S U x0 w0 ops ms Q (A ++ (i, o, some (v', od)) :: B) Ds (putE e oa.dst undef) := fun hv => key undef none hv
      rcases grd_cases h with ⟨h, hg⟩ | ⟨h, hg⟩
      · obtain ⟨v1, D1, h1⟩ := oprS_some h
        obtain ⟨v', od, w', hr, hu, _⟩ := key _ _ h1
        refine ⟨v', od, w', hr, hu, (hg _ _).2 (oprS_mono h fun v D hk => ?_)⟩
        obtain ⟨v2, od2, w2, hr2, _, hk2⟩ := key _ _ hk
        obtain ⟨rfl, rfl, rfl⟩ := hr.one hr2
        exact hk2
      · obtain ⟨v', od, w', hr, hu, hk⟩ := key0 h
        exact ⟨v', od, w', hr, hu, (hg _ _).2 hk⟩


/-- A CALL GOES BEHIND ALL THAT IS AHEAD OF IT. -/
theorem exec_call (hG : Agree P Γ) (hS : Pre S) {i : Nat} {o : Oper} {B : List Nd} {ρ : Env} (hp : isPure o.op = false) (hsel : isSel o.op = false) (hw : S w0 w) (hux : pxOf ms x0 i = true → U w) :
    ∀ (A : List Nd) (Ds : List (Nat × DP)) (e : Env), Once A → VCs P Γ S U x0 w0 ops ms Q (A ++ (i, o, none) :: B) Ds e → Agr ops A e ρ o → DnF ((ms[i]?).getD 0) Ds w →
      (∀ n ∈ A, match n.2.2 with | some (_, some D) => D w | some (_, none) => True | none => False) →
      (grd ops ρ o True False ∧ Does P (ev ρ) o w fun v w' => (S w w' ∧ (Nat.beq i x0 = false → U w → U w')) ∧ ∃ D : DP, (∀ W W', D W → S W W' → D W') ∧ D w' ∧ VCs P Γ S U x0 w0 ops ms Q (A ++ (i, o, some (v, some D)) :: B) Ds e) ∨
      (grd ops ρ o False True ∧ VCs P Γ S U x0 w0 ops ms Q (A ++ (i, o, some (undef, none)) :: B) Ds e) := by
  intro A
  induction A with
  | nil =>
    intro Ds e _ h hA hD _
    have hA' : ∀ s ∈ looks ops o, e s = ρ s := fun s hm => Option.some.inj (hA s hm)
    have hex := exec_congr hsel hA'
    simp only [List.nil_append, VCs] at h
    rcases grd_cases h with ⟨h, hg⟩ | ⟨h, hg⟩
    · refine .inl ⟨(grd_congr hA' _ _).1 ((hg _ _).2 trivial), ?_⟩
      rcases h with ⟨hi, _⟩ | ⟨hi, τ, hn, f, F, h1, h2, h3⟩
      · rw [hp] at hi; cases hi
      · have hd := h2 w hw hD hux
        unfold Does at hd ⊢
        rw [hex] at hd
        refine Does.mono (ρ := ev ρ) hd ?_
        rintro v w' ⟨hc, y, rfl, hF⟩
        refine ⟨hc, S w', fun W W' h k => hS.trans h k, hS.refl _, ?_⟩
        exact h3 y _ fun W hW => h1 y w' W hF hW
    · exact .inr ⟨(grd_congr hA' _ _).1 ((hg _ _).2 trivial), h⟩
  | cons a A ih =>
    obtain ⟨ia, oa, da⟩ := a
    intro Ds e ho h hA hD hn
    have ho' := (List.pairwise_cons.1 ho).2
    have hn' := hn _ List.mem_cons_self
    have hnA := fun n hm => hn n (List.mem_cons_of_mem _ hm)
    cases da with
    | some vd =>
      obtain ⟨va, Da⟩ := vd
      simp only [List.cons_append, VCs] at h ⊢
      refine ih _ _ ho' h ?_ (getDs_add hD ?_) hnA
      · intro s hm
        rw [slotv_done ho]
        exact hA s hm
      · intro d hd _
        subst hd
        exact hn'
    | none => exact hn'.elim

/-- what a slot holds now -/
def slotd : List Nd → Env → Nat → Value
  | [], e, s => e s
  | (_, o, some (v, _)) :: r, e, s => if o.dst = some s then v else slotd r e s
  | (_, _, none) :: r, e, s => slotd r e s

theorem slotd_free {s : Nat} : ∀ (A : List Nd) (e : Env), (∀ n ∈ A, n.2.1.dst ≠ some s) → slotd A e s = e s
  | [], e, _ => rfl
  | (i, o, some (v, D)) :: r, e, h => by
    simp only [slotd]
    rw [if_neg (h _ List.mem_cons_self)]
    exact slotd_free r e fun n hn => h n (List.mem_cons_of_mem _ hn)
  | (i, o, none) :: r, e, h => by
    simp only [slotd]
    exact slotd_free r e fun n hn => h n (List.mem_cons_of_mem _ hn)

theorem slotd_append {s : Nat} {e : Env} : ∀ (A B : List Nd), (∀ n ∈ B, n.2.1.dst ≠ some s) → slotd (A ++ B) e s = slotd A e s
  | [], B, h => by rw [List.nil_append, slotd_free B e h]; rfl
  | (i, o, some (v, D)) :: r, B, h => by simp only [List.cons_append, slotd]; rw [slotd_append r B h]
  | (i, o, none) :: r, B, h => by simp only [List.cons_append, slotd]; rw [slotd_append r B h]

/-- where all writers of a slot are done -/
theorem slotv_slotd {s : Nat} {e : Env} : ∀ (A : List Nd), (∀ n ∈ A, n.2.1.dst = some s → n.2.2.isSome = true) → slotv A e s = some (slotd A e s)
  | [], _ => rfl
  | (i, o, some (v, D)) :: r, h => by
    simp only [slotv, slotd]
    split
    · rfl
    · exact slotv_slotd r fun n hn => h n (List.mem_cons_of_mem _ hn)
  | (i, o, none) :: r, h => by
    simp only [slotv, slotd]
    rw [if_neg (fun hd => by have := h _ List.mem_cons_self hd; cases this)]
    exact slotv_slotd r fun n hn => h n (List.mem_cons_of_mem _ hn)

/-- an operation is done now -/
theorem slotd_done {s i : Nat} {o : Oper} {v : Value} {od : Option DP} {e : Env} {B : List Nd} : ∀ (A : List Nd), Once (A ++ (i, o, none) :: B) →
    slotd (A ++ (i, o, some (v, od)) :: B) e s = putE (slotd (A ++ (i, o, none) :: B) e) o.dst v s
  | [], h => by
    simp only [List.nil_append, slotd]
    split
    · rename_i hd; rw [hd, putE_same]
    · rename_i hd; rw [putE_other hd]
  | (ia, oa, some (va, da)) :: A, h => by
    have h' := List.pairwise_cons.1 h
    have ih := slotd_done (s := s) (v := v) (od := od) (e := e) A h'.2
    simp only [List.cons_append, slotd]
    split
    · rename_i hd
      have hne : o.dst ≠ some s := by
        have := h'.1 (i, o, none) (by simp)
        exact this s hd
      rw [putE_other hne, if_pos hd]
    · rename_i hd
      rw [ih]
      by_cases hne : o.dst = some s
      · rw [hne, putE_same, putE_same]
      · rw [putE_other hne, putE_other hne, if_neg hd]
  | (ia, oa, none) :: A, h => by
    have ih := slotd_done (s := s) (v := v) (od := od) (e := e) A (List.pairwise_cons.1 h).2
    simp only [List.cons_append, slotd]
    rw [ih]

/-- all are done: where it ends -/
theorem all_done : ∀ (A : List Nd) (Ds : List (Nat × DP)) (e : Env), VCs P Γ S U x0 w0 ops ms Q A Ds e → Once A → (∀ n ∈ A, n.2.2.isSome = true) →
    (∀ j, getDs Ds j w) → (∀ n ∈ A, ∀ v D, n.2.2 = some (v, some D) → D w) → ∃ E Es, Q E Es ∧ (∀ s, E s = slotd A e s) ∧ ∀ j, getDs Es j w
  | [], Ds, e, h, _, _, hD, _ => ⟨e, Ds, h, fun _ => rfl, hD⟩
  | (i, o, none) :: r, Ds, e, h, _, hs, _, _ => by have := hs _ List.mem_cons_self; cases this
  | (i, o, some (v, D)) :: r, Ds, e, h, ho, hs, hD, hn => by
    simp only [VCs] at h
    have ho' := List.pairwise_cons.1 ho
    obtain ⟨E, Es, hq, he, hd⟩ := all_done r _ _ h ho'.2 (fun n hm => hs n (List.mem_cons_of_mem _ hm)) (by
      intro j
      cases D with
      | none => exact hD j
      | some d =>
        simp only [addD, getDs]
        cases Nat.beq j i with
        | false => exact hD j
        | true => exact hn _ List.mem_cons_self v d rfl) (fun n hm => hn n (List.mem_cons_of_mem _ hm))
    refine ⟨E, Es, hq, fun s => ?_, hd⟩
    rw [he]
    simp only [slotd]
    split
    · rename_i hd
      rw [slotd_free r _ fun n hm => ho'.1 n hm s hd, hd, putE_same]
    · rename_i hd
      have : ∀ (r : List Nd) (e e' : Env), e s = e' s → slotd r e s = slotd r e' s := by
        intro r
        induction r with
        | nil => intro e e' h; exact h
        | cons a r ih =>
          obtain ⟨ia, oa, da⟩ := a
          intro e e' h
          cases da with
          | none => simp only [slotd]; exact ih _ _ h
          | some vd => simp only [slotd]; split; rfl; exact ih _ _ h
      exact this r _ _ (putE_other hd)

end
end Go.Au
