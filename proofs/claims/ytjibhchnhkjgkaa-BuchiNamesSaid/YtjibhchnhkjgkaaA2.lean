/- Own text of this workplace: a part of the proofs of this place's statements. -/
import Derived.Test.YtjibhchnhkjgkaaA1
set_option linter.unusedVariables false
set_option linter.unusedSimpArgs false
set_option linter.unusedSectionVars false
namespace Go.Au
open Go Go.RowKit

section
variable {P : Program} {Γ : List (Nat × TI)} {n : Nat} {ds : List Deferred}

theorem okO_congr {o : Oper} (h : okO n o = true) (e : Env) (hs : isSel o.op = false) : execOp (ag n ds e).eval o = execOp (ev e) o := by
  refine execOp_congr o ?_ ?_
  · intro cs b hb; rw [hb] at hs; cases hs
  · intro x hx
    simp only [okO, Bool.and_eq_true, List.all_eq_true] at h
    exact ag_eval (h.1 x (by simpa using hx))

theorem Does.toAg {o : Oper} (h : okO n o = true) (hs : isSel o.op = false) {e : Env} {w : World} {K : Value → World → Prop} (hd : Does P (ev e) o w K) : Does P (ag n ds e).eval o w K := by
  unfold Does at *
  rw [okO_congr h e hs]
  exact hd

theorem op1_notSel {e : Env} {o : Oper} {w : World} {K : Value → World → Prop} (h : op1 P Γ e o w K) : isSel o.op = false := by
  cases ho : o.op
  case select cs b =>
    unfold op1 at h
    rw [ho] at h
    obtain ⟨v, w', hr, _⟩ := h
    exfalso
    unfold execOp at hr
    rw [ho] at hr
    simp only [Sem.run_bind] at hr
    generalize Sem.run P _ w = r at hr
    cases r with
    | ok a w1 => simp [Result.andThen] at hr
    | halt x w1 => simp [Result.andThen] at hr
  all_goals rfl

/-- what the guard of an operation says -/
theorem gslot_eq : ∀ (l : List Oper) (j : Nat), gslot l j = (l[j]?).bind (·.dst)
  | [], j => by simp [gslot]
  | o :: r, 0 => by simp [gslot]
  | o :: r, j + 1 => by simp [gslot, gslot_eq r j]

theorem yielded_ag (ops : List Oper) (e : Env) (j : Nat) {s : Nat} (h : gslot ops j = some s) (hs : Nat.blt s n = true) {b : Bool} (hb : e s = .bool b) : yielded ops.toArray (ag n ds e).tmps j = some b := by
  unfold yielded
  rw [gslot_eq] at h
  have h' : (ops.toArray[j]?).bind (·.dst) = some s := by simpa using h
  rw [h']
  have ht : s < n := by simpa [Nat.blt_eq] using hs
  simp [ag, ht, hb]

theorem yielded_no (ops : List Oper) (e : Env) (j : Nat) {s : Nat} (h : gslot ops j = some s) (hs : Nat.blt s n = true) {x : Array Value} (hb : e s = .tuple x) : yielded ops.toArray (ag n ds e).tmps j = none := by
  unfold yielded
  rw [gslot_eq] at h
  have h' : (ops.toArray[j]?).bind (·.dst) = some s := by simpa using h
  rw [h']
  have ht : s < n := by simpa [Nat.blt_eq] using hs
  simp [ag, ht, hb]

/-- `grd` and what the model asks -/
theorem grd_spec {ops : List Oper} {e : Env} {o : Oper} {run skip : Prop} (h : grd ops e o run skip) (hj : ∀ j b, o.guard = some (j, b) → ∃ s, gslot ops j = some s ∧ Nat.blt s n = true) :
    (Region.wanted o (yielded ops.toArray (ag n ds e).tmps) = true ∧ run) ∨ (Region.wanted o (yielded ops.toArray (ag n ds e).tmps) = false ∧ skip) := by
  unfold grd at h
  cases hg : o.guard with
  | none =>
    rw [hg] at h
    exact .inl ⟨by simp [Region.wanted, hg], h⟩
  | some p =>
    obtain ⟨j, b⟩ := p
    rw [hg] at h
    obtain ⟨s, hs, hlt⟩ := hj j b hg
    simp only [hs] at h
    split at h
    · rename_i he
      exact .inl ⟨by simp [Region.wanted, hg, yielded_ag ops e j hs hlt he], h⟩
    · rename_i he
      exact .inr ⟨by simp [Region.wanted, hg, yielded_ag ops e j hs hlt he], h⟩
    · rename_i he
      exact .inr ⟨by simp [Region.wanted, hg, yielded_ag ops e j hs hlt he], h⟩
    · rename_i he
      exact .inl ⟨by simp [Region.wanted, hg, yielded_ag ops e j hs hlt he], h⟩
    · rename_i he
      exact .inr ⟨by simp [Region.wanted, hg, yielded_no ops e j hs hlt he], h⟩
    · exact h.elim

theorem okOps_guard {ops : List Oper} (h : okOps n ops = true) {o : Oper} (ho : o ∈ ops) : okO n o = true ∧ ∀ j b, o.guard = some (j, b) → ∃ s, gslot ops j = some s ∧ Nat.blt s n = true := by
  simp only [okOps, List.all_eq_true] at h
  have := h o ho
  rw [Bool.and_eq_true] at this
  refine ⟨this.1, fun j b hg => ?_⟩
  have h2 := this.2
  rw [hg] at h2
  simp only at h2
  split at h2
  · rename_i s hs; exact ⟨s, hs, h2⟩
  · cases h2

theorem VCl_sound (hG : Agree P Γ) {ops : List Oper} (hok : okOps n ops = true) {Q : Exit → Env → World → Prop} {Q' : Env → World → Prop} (hQ : ∀ e w, Q' e w → Q .normal e w) :
    ∀ (l : List Oper), (∀ o ∈ l, o ∈ ops) → ∀ e w, VCl P Γ ops Q' l e w → wpList P ops.toArray (lift n ds Q) l (ag n ds e) w
  | [], _, e, w, h => ⟨e, rfl, hQ _ _ h⟩
  | o :: rest, hm, e, w, h => by
    obtain ⟨h1, h2⟩ := okOps_guard hok (hm o List.mem_cons_self)
    have ih := VCl_sound hG hok hQ rest (fun x hx => hm x (List.mem_cons_of_mem _ hx))
    rw [VCl_cons] at h
    unfold wpList
    rcases grd_spec (n := n) (ds := ds) h h2 with ⟨hw, hr⟩ | ⟨hw, hr⟩
    · rw [if_pos hw]
      refine .inl (((op1_does hG hr).toAg (ds := ds) h1 (op1_notSel hr)).upon ?_)
      intro v w' hk
      rw [ag_put]
      exact ih _ _ hk
    · rw [if_neg (by simp [hw]), ag_put]
      exact ih _ _ hr

theorem WC_mono {c : Code} {Q Q' : Exit → Env → World → Prop} {e : Env} {w : World} (h : WC P n ds c Q e w) (hq : ∀ x e w, Q x e w → Q' x e w) : WC P n ds c Q' e w :=
  Code.wp_mono (fun _ _ _ ⟨e', ha, h'⟩ => ⟨e', ha, hq _ _ _ h'⟩) h

/-- THE WALK IS SOUND. -/
theorem VCC_sound (hG : Agree P Γ) : ∀ (c : Code) {Q : Exit → Env → World → Prop} {e : Env} {w : World}, okC n c = true → VCC P Γ n ds c Q e w → WC P n ds c Q e w
  | .skip, Q, e, w, _, h => wp_skip ⟨e, rfl, h⟩
  | .label l, Q, e, w, _, h => wp_label ⟨e, rfl, h⟩
  | .exit i, Q, e, w, _, h => wp_exit ⟨e, rfl, h⟩
  | .ret, Q, e, w, _, h => wp_ret ⟨e, rfl, h⟩
  | .seq a b, Q, e, w, hk, h => by
    simp only [okC, Bool.and_eq_true] at hk
    have ha := VCC_sound hG a hk.1 h
    refine wp_seq (Code.wp_mono ?_ ha)
    rintro x a w ⟨e', rfl, h'⟩
    cases x with
    | normal => exact VCC_sound hG b hk.2 h'
    | _ => exact ⟨e', rfl, h'⟩
  | .cond c a b, Q, e, w, hk, h => by
    simp only [okC, Bool.and_eq_true] at hk
    change (match ev e c with
      | .bool true => VCC P Γ n ds a Q e w
      | .bool false => VCC P Γ n ds b Q e w
      | _ => False) at h
    split at h
    · rename_i hc
      exact wp_cond_true ((ag_eval hk.1.1).trans hc) (VCC_sound hG a hk.1.2 h)
    · rename_i hc
      exact wp_cond_false ((ag_eval hk.1.1).trans hc) (VCC_sound hG b hk.2 h)
    · exact h.elim
  | .block id c, Q, e, w, hk, h => by
    have hc := VCC_sound hG c (by simpa [okC] using hk) h
    refine wp_block (Code.wp_mono ?_ hc)
    rintro x a w ⟨e', rfl, h'⟩
    cases x with
    | exit i =>
      simp only [Exit.inBlock]
      by_cases hi : i = id
      · subst hi
        simp only [show Nat.beq i i = true from Nat.beq_refl i, cond_true] at h'
        rw [if_pos rfl]; exact ⟨e', rfl, h'⟩
      · simp only [beqf hi, cond_false] at h'
        rw [if_neg hi]; exact ⟨e', rfl, h'⟩
    | _ => exact ⟨e', rfl, h'⟩
  | .region id ops false, Q, e, w, hk, h => by
    refine wp_region_list (ops := ops) ?_
    have := VCl_sound (ds := ds) hG (n := n) (ops := ops.toList) (by simpa [okC] using hk) (Q := Q) (fun _ _ h => h) ops.toList (fun _ h => h) e w h
    simpa using this
  | .region id ops true, Q, e, w, hk, h => h hk
  | .loop c, Q, e, w, hk, h => h hk
  | .rangeFunc _ _ _ _, Q, e, w, hk, h => h hk
  | .scope _, Q, e, w, hk, h => h hk
  | .goto _, Q, e, w, hk, h => h hk
  | .refuse _, Q, e, w, hk, h => h hk

/-- slots with their values -/
def setL (e : Env) : List (Nat × Value) → Env
  | [] => e
  | (s, v) :: r => upd (setL e r) s v
def Has (e : Env) : List (Nat × Value) → Prop
  | [] => True
  | (s, v) :: r => e s = v ∧ Has e r

theorem setL_has {e : Env} : ∀ {l : List (Nat × Value)}, Has e l → setL e l = e
  | [], _ => rfl
  | (s, v) :: r, ⟨h, hr⟩ => by
    funext i
    simp only [setL, upd, setL_has hr]
    cases hb : Nat.beq i s with
    | false => rfl
    | true => rw [Nat.eq_of_beq_eq_true hb, ← h]; rfl

/-- a loop goes on -/
structure Again {σ : Type} (slots : σ → List (Nat × Value)) (Inv : σ → World → Prop) (m : σ → Nat) (p : σ) (e : Env) (w : World) : Prop where
  h : ∃ p', Has e (slots p') ∧ Inv p' w ∧ m p' < m p

/-- A loop: p says how far it is; `slots`: what the frame holds at a round's head (nothing else is known of it); `Inv`: of the world. -/
theorem loop (hG : Agree P Γ) {Q : Exit → Env → World → Prop} {e : Env} {w : World} {σ : Type} (slots : σ → List (Nat × Value)) (Inv : σ → World → Prop) (m : σ → Nat) (p0 : σ) {body : Code}
    (hs : Has e (slots p0)) (h0 : Inv p0 w)
    (round : ∀ p e0 w, Inv p w → VCC P Γ n ds body (fun x e' w' => match x with
      | .normal => Again slots Inv m p e' w'
      | x => Q x e' w') (setL e0 (slots p)) w) : Piece P n ds (.loop body) Q e w := by
  intro hk
  have hk' : okC n body = true := by simpa [okC] using hk
  intro b kk cs
  have key : ∀ k p e w, m p = k → Has e (slots p) → Inv p w →
      ∃ x a' w', lift n ds Q x a' w' ∧ Arrives P (lone (b.at (ag n ds e) (.code body :: .inLoop body :: kk)) cs w) b kk cs x a' w' := by
    intro k
    induction k using Nat.strongRecOn with
    | _ k ih =>
      intro p e w hk hh hI
      have hr := VCC_sound hG body hk' (round p e w hI)
      rw [setL_has hh] at hr
      obtain ⟨x, a₁, w₁, ⟨e₁, rfl, hq⟩, harr⟩ := hr b (.inLoop body :: kk) cs
      cases x with
      | normal =>
        obtain ⟨p', hh', hI', hlt⟩ := Again.h hq
        obtain ⟨x₂, a₂, w₂, hq₂, harr₂⟩ := ih (m p') (hk ▸ hlt) p' e₁ w₁ rfl hh' hI'
        exact ⟨x₂, a₂, w₂, hq₂, .of_steps (Steps.trans harr (.one step_inLoop)) harr₂⟩
      | exit id => exact ⟨_, _, w₁, ⟨e₁, rfl, hq⟩, .pass (x := .inLoop body) rfl (fun _ _ => .inl (by simp)) harr⟩
      | goto l => exact ⟨_, _, w₁, ⟨e₁, rfl, hq⟩, .pass (x := .inLoop body) rfl (fun _ _ => .inl (by simp)) harr⟩
      | ret => exact ⟨_, _, w₁, ⟨e₁, rfl, hq⟩, .pass (x := .inLoop body) rfl (fun _ _ => .inl (by simp)) harr⟩
      | panic ch => exact ⟨_, _, w₁, ⟨e₁, rfl, hq⟩, .pass (x := .inLoop body) rfl (fun _ _ => .inl (by simp)) harr⟩
      | outgrown => exact ⟨_, _, w₁, ⟨e₁, rfl, hq⟩, .pass (x := .inLoop body) rfl (fun _ _ => .inl (by simp)) harr⟩
  obtain ⟨x, a', w', hq, harr⟩ := key _ p0 e w rfl hs h0
  exact ⟨x, a', w', hq, .of_steps (.one step_loop) harr⟩

/-! ### a function -/
def envA : List Value → Env
  | [], _ => undef
  | v :: _, 0 => v
  | _ :: r, i + 1 => envA r i

theorem envA_eq (l : List Value) : ∀ i, envA l i = (l[i]?).getD undef := by
  induction l with
  | nil => intro i; cases i <;> rfl
  | cons v r ih => intro i; cases i with
    | zero => rfl
    | succ i => simpa [envA] using ih i

theorem ag_args (l : List Value) (n : Nat) (h : l.length ≤ n) : ({ tmps := l.toArray ++ Array.replicate (n - l.length) undef, defers := [] } : Act) = ag n [] (envA l) := by
  simp only [ag]
  congr 1
  apply Array.ext
  · simp; omega
  · intro i h1 h2
    simp only [List.getElem_toArray, List.getElem_map, List.getElem_range, envA_eq]
    rw [Array.getElem_append]
    split
    · rename_i hi
      have hi' : i < l.length := by simpa using hi
      simp [hi']
    · rename_i hi
      have hi' : l.length ≤ i := by simpa using hi
      simp [hi']

def pack : List Value → Value
  | [v] => v
  | vs => .tuple vs.toArray

/-- what a function hands back -/
noncomputable def finL (P : Program) (R : Value → World → Prop) (e : Env) (w : World) (rs : List ResultVar) : List Value → Prop :=
  List.rec (motive := fun _ => List Value → Prop) (fun acc => R (pack acc) w)
    (fun r _ ih acc => match r with
      | .tmp a => ih (acc ++ [e a])
      | .cell a t => Ld P t (e a) w fun v => ih (acc ++ [v])) rs

/-- where a function ends -/
noncomputable def fin (P : Program) (rs : List ResultVar) (R : Value → World → Prop) : Exit → Env → World → Prop
  | .normal, e, w | .ret, e, w => finL P R e w rs []
  | _, _, _ => False

def okR (n : Nat) : List ResultVar → Bool
  | [] => true
  | .tmp t :: r => Nat.blt t n && okR n r
  | .cell t _ :: r => Nat.blt t n && okR n r

theorem asAddr_of {t : TypeId} {a v : Value} {w w' : World} (h : (Instr.loadAt t a).run P w = .ok v w') : (do loadVar t (← asAddr a) : Sem Value).run P w = .ok v w' := by
  unfold Instr.loadAt Instr.sureAddr at h
  rw [Sem.run_bind] at h ⊢
  cases a with
  | pointer q =>
    cases q with
    | none => simp [Result.andThen, runtimePanic, Sem.run_bind] at h
    | some q => simpa [asAddr, Result.andThen] using h
  | _ => simp [asAddr, Result.andThen] at h

theorem finL_spec {R : Value → World → Prop} {e : Env} {w : World} (f : ResultVar → Sem Value) (hf : ∀ u, f (.tmp u) = pure ((ag n ds e).tmps.getD u undef)) (hc : ∀ a t, f (.cell a t) = (do loadVar t (← asAddr ((ag n ds e).tmps.getD a undef)))) :
    ∀ (rs : List ResultVar) (acc : List Value), okR n rs = true → finL P R e w rs acc → ∃ vs, (rs.mapM f).run P w = .ok vs w ∧ R (pack (acc ++ vs)) w
  | [], acc, _, h => ⟨[], by simp, by rw [List.append_nil]; exact h⟩
  | .tmp a :: r, acc, hk, h => by
    simp only [okR, Bool.and_eq_true] at hk
    obtain ⟨vs, h1, h2⟩ := finL_spec f hf hc r (acc ++ [e a]) hk.2 h
    refine ⟨e a :: vs, ?_, by simpa using h2⟩
    rw [List.mapM_cons, hf, ag_get hk.1]
    simp [h1]
  | .cell a t :: r, acc, hk, h => by
    simp only [okR, Bool.and_eq_true] at hk
    obtain ⟨v, hv, h⟩ := Ld.h h
    obtain ⟨vs, h1, h2⟩ := finL_spec f hf hc r (acc ++ [v]) hk.2 h
    refine ⟨v :: vs, ?_, by simpa using h2⟩
    rw [List.mapM_cons, hc, ag_get hk.1, Sem.run_bind, asAddr_of hv]
    simp [h1]

theorem results_fin {R : Value → World → Prop} {e : Env} {w : World} {fn : Func} (hk : okR n fn.results.toList = true) (h : finL P R e w fn.results.toList []) : ∃ v, (results fn (ag n ds e).tmps).run P w = .ok v w ∧ R v w := by
  unfold results
  obtain ⟨vs, h1, h2⟩ := finL_spec (ds := ds) (n := n) (fun
    | .tmp t => pure ((ag n ds e).tmps.getD t undef)
    | .cell a t => do loadVar t (← asAddr ((ag n ds e).tmps.getD a undef))) (fun _ => rfl) (fun _ _ => rfl) fn.results.toList [] hk h
  refine ⟨pack vs, ?_, by simpa using h2⟩
  rw [show fn.results = fn.results.toList.toArray from rfl, List.mapM_toArray, Sem.run_bind, Sem.run_map]
  refine (congrArg (fun r => ((r : Result (List Value)).andThen _).andThen _) h1).trans ?_
  rcases vs with _ | ⟨v, _ | ⟨v2, r⟩⟩ <;> simp [pack, Result.andThen]

/-- A call keeps its contract, if its body's walk does. -/
theorem call (hG : Agree P Γ) {f : FuncId} {fn : Func} {c : Code} {args : List Value} {w : World} {R : Value → World → Prop} (hf : P.funcs[f]? = some fn) (hb : fn.body = some c) (hn : fn.ntmps = n)
    (hok : (okC n c && okR n fn.results.toList && Nat.ble args.length n) = true) (h : VCC P Γ n [] c (fin P fn.results.toList R) (envA args) w) : Calls P f args.toArray w (Ret R) := by
  rw [Bool.and_eq_true, Bool.and_eq_true] at hok
  obtain ⟨⟨h1, h2⟩, h3⟩ := hok
  have h3 := Nat.le_of_ble_eq_true h3
  refine calls_of_wp hf hb ?_
  rw [hn]
  have := ag_args args n h3
  simp only [List.size_toArray] at this ⊢
  rw [this]
  refine Code.wp_mono ?_ (VCC_sound hG c h1 h)
  rintro x a w ⟨e, rfl, hq⟩
  have key : fin P fn.results.toList R .ret e w → (ag n [] e).defers = [] ∧ ∃ v, (results fn (ag n [] e).tmps).run P w = .ok v w ∧ Ret R (.returned v) w := by
    intro hq
    exact ⟨rfl, results_fin h2 hq⟩
  cases x with
  | normal => exact key hq
  | ret => exact key hq
  | _ => exact hq.elim

end
end Go.Au
