/- Own text of this workplace: a part of the proofs of this place's statements. -/
import Derived.Test.YtjibhchnhkjgkaaA1
set_option linter.unusedVariables false
set_option linter.unusedSimpArgs false
set_option linter.unusedSectionVars false
namespace Go.Au
open Go Go.RowKit

section
variable {P : Program} {Γ : List (Nat × TI)} {n : Nat} {ds : List Deferred}

theorem okO_congr {o : Oper} (h : okO n o = true) (e : Env) (hs : isSel o.op = false) : execOp (ag n ds e).eval o = execOp (ev e) o := by
  refine execOp_congr o ?_ ?_
  · intro cs b hb; rw [hb] at hs; cases hs
  · intro x hx
    simp only [okO, Bool.and_eq_true, List.all_eq_true] at h
    exact ag_eval (h.1.1.1 x (by simpa using hx))

theorem Does.toAg {o : Oper} (h : okO n o = true) (hs : isSel o.op = false) {e : Env} {w : World} {K : Value → World → Prop} (hd : Does P (ev e) o w K) : Does P (ag n ds e).eval o w K := by
  unfold Does at *
  rw [okO_congr h e hs]
  exact hd

theorem op1_notSel {e : Env} {o : Oper} {w : World} {K : Value → World → Prop} (h : op1 P Γ e o w K) : isSel o.op = false := by
  cases ho : o.op
  case select cs b =>
    unfold op1 at h
    rw [ho] at h
    obtain ⟨v, w', hr, _⟩ := h
    exfalso
    unfold execOp at hr
    rw [ho] at hr
    simp only [Sem.run_bind] at hr
    generalize Sem.run P _ w = r at hr
    cases r with
    | ok a w1 => simp [Result.andThen] at hr
    | halt x w1 => simp [Result.andThen] at hr
  all_goals rfl

/-- what the guard of an operation says -/
theorem gslot_eq : ∀ (l : List Oper) (j : Nat), gslot l j = (l[j]?).bind (·.dst)
  | [], j => by simp [gslot]
  | o :: r, 0 => by simp [gslot]
  | o :: r, j + 1 => by simp [gslot, gslot_eq r j]

theorem yielded_ag (ops : List Oper) (e : Env) (j : Nat) {s : Nat} (h : gslot ops j = some s) (hs : Nat.blt s n = true) {b : Bool} (hb : e s = .bool b) : yielded ops.toArray (ag n ds e).tmps j = some b := by
  unfold yielded
  rw [gslot_eq] at h
  have h' : (ops.toArray[j]?).bind (·.dst) = some s := by simpa using h
  rw [h']
  have ht : s < n := by simpa [Nat.blt_eq] using hs
  simp [ag, ht, hb]

theorem yielded_no (ops : List Oper) (e : Env) (j : Nat) {s : Nat} (h : gslot ops j = some s) (hs : Nat.blt s n = true) {x : Array Value} (hb : e s = .tuple x) : yielded ops.toArray (ag n ds e).tmps j = none := by
  unfold yielded
  rw [gslot_eq] at h
  have h' : (ops.toArray[j]?).bind (·.dst) = some s := by simpa using h
  rw [h']
  have ht : s < n := by simpa [Nat.blt_eq] using hs
  simp [ag, ht, hb]

/-- `grd` and what the model asks -/
theorem grd_spec {ops : List Oper} {e : Env} {o : Oper} {run skip : Prop} (h : grd ops e o run skip) (hj : ∀ j b, o.guard = some (j, b) → ∃ s, gslot ops j = some s ∧ Nat.blt s n = true) :
    (Region.wanted o (yielded ops.toArray (ag n ds e).tmps) = true ∧ run) ∨ (Region.wanted o (yielded ops.toArray (ag n ds e).tmps) = false ∧ skip) := by
  unfold grd at h
  cases hg : o.guard with
  | none =>
    rw [hg] at h
    exact .inl ⟨by simp [Region.wanted, hg], h⟩
  | some p =>
    obtain ⟨j, b⟩ := p
    rw [hg] at h
    obtain ⟨s, hs, hlt⟩ := hj j b hg
    simp only [hs] at h
    split at h
    · rename_i he
      exact .inl ⟨by simp [Region.wanted, hg, yielded_ag ops e j hs hlt he], h⟩
    · rename_i he
      exact .inr ⟨by simp [Region.wanted, hg, yielded_ag ops e j hs hlt he], h⟩
    · rename_i he
      exact .inr ⟨by simp [Region.wanted, hg, yielded_ag ops e j hs hlt he], h⟩
    · rename_i he
      exact .inl ⟨by simp [Region.wanted, hg, yielded_ag ops e j hs hlt he], h⟩
    · rename_i he
      exact .inr ⟨by simp [Region.wanted, hg, yielded_no ops e j hs hlt he], h⟩
    · exact h.elim

theorem okOps_guard {ops : List Oper} (h : okOps n ops = true) {o : Oper} (ho : o ∈ ops) : okO n o = true ∧ ∀ j b, o.guard = some (j, b) → ∃ s, gslot ops j = some s ∧ Nat.blt s n = true := by
  simp only [okOps, List.all_eq_true] at h
  have := h o ho
  rw [Bool.and_eq_true] at this
  refine ⟨this.1, fun j b hg => ?_⟩
  have h2 := this.2
  rw [hg] at h2
  simp only at h2
  split at h2
  · rename_i s hs; exact ⟨s, hs, h2⟩
  · cases h2

theorem okO_dst {o : Oper} (h : okO n o = true) : okD o.dst = true := by
  simp only [okO, Bool.and_eq_true] at h
  exact h.1.2
theorem okO_def {o : Oper} (h : okO n o = true) : ∀ c, o.op ≠ .defer c := by
  simp only [okO, Bool.and_eq_true, Bool.not_eq_true'] at h
  intro c hc
  rw [hc] at h
  exact absurd h.2 (by simp [isDef])

variable {rd : Option Nat}
theorem VCl_sound (hG : Agree P Γ) {ops : List Oper} (hok : okOps n ops = true) {Q : Exit → Env → World → Prop} {Q' : Env → World → Prop} (hQ : ∀ e w, Q' e w → Q .normal e w) :
    ∀ (l : List Oper), (∀ o ∈ l, o ∈ ops) → ∀ e w, VCl P Γ ops Q' l e w → wpListIn (fen rd) 0 P ops.toArray (lift n ds Q) l (ag n ds e) w
  | [], _, e, w, h => ⟨e, rfl, hQ _ _ h⟩
  | o :: rest, hm, e, w, h => by
    obtain ⟨h1, h2⟩ := okOps_guard hok (hm o List.mem_cons_self)
    have ih := VCl_sound hG hok hQ rest (fun x hx => hm x (List.mem_cons_of_mem _ hx))
    rw [VCl_cons] at h
    unfold wpListIn
    rcases grd_spec (n := n) (ds := ds) h h2 with ⟨hw, hr⟩ | ⟨hw, hr⟩
    · rw [if_pos hw]
      refine ((op1_does hG hr).toAg (ds := ds) h1 (op1_notSel hr)).upon (okO_def h1) ?_
      intro v w' hk
      rw [ag_put _ _ _ _ (okO_dst h1)]
      exact ih _ _ hk
    · rw [if_neg (by simp [hw]), ag_put _ _ _ _ (okO_dst h1)]
      exact ⟨fun _ _ => trivial, ih _ _ hr⟩

theorem WC_mono {c : Code} {Q Q' : Exit → Env → World → Prop} {e : Env} {w : World} (h : WC P n ds rd c Q e w) (hq : ∀ x e w, Q x e w → Q' x e w) : WC P n ds rd c Q' e w :=
  Code.wpIn_mono (fun _ _ _ ⟨e', ha, h'⟩ => ⟨e', ha, hq _ _ _ h'⟩) h

/-- THE WALK IS SOUND. -/
theorem VCC_sound (hG : Agree P Γ) : ∀ (c : Code) {Q : Exit → Env → World → Prop} {e : Env} {w : World}, okC n c = true → VCC P Γ n ds rd c Q e w → WC P n ds rd c Q e w
  | .skip, Q, e, w, _, h => wpIn_skip ⟨e, rfl, h⟩
  | .label l, Q, e, w, _, h => wpIn_label ⟨e, rfl, h⟩
  | .exit i, Q, e, w, _, h => wpIn_exit ⟨e, rfl, h⟩
  | .ret, Q, e, w, _, h => wpIn_ret ⟨e, rfl, h⟩
  | .seq a b, Q, e, w, hk, h => by
    simp only [okC, Bool.and_eq_true] at hk
    have ha := VCC_sound hG a hk.1 h
    refine wpIn_seq (Code.wpIn_mono ?_ ha)
    rintro x a w ⟨e', rfl, h'⟩
    cases x with
    | normal => exact VCC_sound hG b hk.2 h'
    | _ => exact ⟨e', rfl, h'⟩
  | .cond c a b, Q, e, w, hk, h => by
    simp only [okC, Bool.and_eq_true] at hk
    change (match ev e c with
      | .bool true => VCC P Γ n ds rd a Q e w
      | .bool false => VCC P Γ n ds rd b Q e w
      | _ => False) at h
    split at h
    · rename_i hc
      exact wpIn_cond_true ((ag_eval hk.1.1).trans hc) (VCC_sound hG a hk.1.2 h)
    · rename_i hc
      exact wpIn_cond_false ((ag_eval hk.1.1).trans hc) (VCC_sound hG b hk.2 h)
    · exact h.elim
  | .block id c, Q, e, w, hk, h => by
    have hc := VCC_sound hG c (by simpa [okC] using hk) h
    refine wpIn_block (Code.wpIn_mono ?_ hc)
    rintro x a w ⟨e', rfl, h'⟩
    cases x with
    | exit i =>
      simp only [Exit.inBlock]
      by_cases hi : i = id
      · subst hi
        simp only [show Nat.beq i i = true from Nat.beq_refl i, cond_true] at h'
        rw [if_pos rfl]; exact ⟨e', rfl, h'⟩
      · simp only [beqf hi, cond_false] at h'
        rw [if_neg hi]; exact ⟨e', rfl, h'⟩
    | _ => exact ⟨e', rfl, h'⟩
  | .region id ops false, Q, e, w, hk, h => by
    refine wpIn_region_list (ops := ops) ?_
    have := VCl_sound (ds := ds) (rd := rd) hG (n := n) (ops := ops.toList) (by simpa [okC] using hk) (Q := Q) (fun _ _ h => h) ops.toList (fun _ h => h) e w h
    simpa using this
  | .region id ops true, Q, e, w, hk, h => h hk
  | .loop c, Q, e, w, hk, h => h hk
  | .rangeFunc _ _ _ _, Q, e, w, hk, h => h hk
  | .scope _, Q, e, w, hk, h => h hk
  | .goto _, Q, e, w, hk, h => h hk
  | .refuse _, Q, e, w, hk, h => h hk

/-- slots with their values -/
def setL (e : Env) : List (Nat × Value) → Env
  | [] => e
  | (s, v) :: r => upd (setL e r) s v
def Has (e : Env) : List (Nat × Value) → Prop
  | [] => True
  | (s, v) :: r => e s = v ∧ Has e r

theorem setL_has {e : Env} : ∀ {l : List (Nat × Value)}, Has e l → setL e l = e
  | [], _ => rfl
  | (s, v) :: r, ⟨h, hr⟩ => by
    funext i
    simp only [setL, upd, setL_has hr]
    cases hb : Nat.beq i s with
    | false => rfl
    | true => rw [Nat.eq_of_beq_eq_true hb, ← h]; rfl

/-- a loop goes on -/
structure Again {σ : Type} (slots : σ → List (Nat × Value)) (Inv : σ → World → Prop) (m : σ → Nat) (p : σ) (e : Env) (w : World) (k : Value := undef) : Prop where
  h : ∃ p', Has e (slots p') ∧ Inv p' w ∧ m p' < m p
  mk_ : e mark = k

theorem setL_mark {e0 : Env} {l : List (Nat × Value)} {k : Value} (h : Has e0 l) (hm : e0 mark = k) : upd (setL e0 l) mark k = e0 := by
  funext i
  simp only [upd, setL_has h]
  cases hb : Nat.beq i mark with
  | false => rfl
  | true => rw [Nat.eq_of_beq_eq_true hb, hm]; rfl

/-- A loop: p says how far it is; `slots`: what the frame holds at a round's head (nothing else is known of it); `Inv`: of the world. -/
theorem loopK (hG : Agree P Γ) (mk : Value) {Q : Exit → Env → World → Prop} {e : Env} {w : World} {σ : Type} (slots : σ → List (Nat × Value)) (Inv : σ → World → Prop) (m : σ → Nat) (p0 : σ) {body : Code}
    (hmk0 : e mark = mk) (hs : Has e (slots p0)) (h0 : Inv p0 w)
    (round : ∀ p e0 w, Inv p w → VCC P Γ n ds rd body (fun x e' w' => match x with
      | .normal => Again slots Inv m p e' w' mk
      | x => Q x e' w') (upd (setL e0 (slots p)) mark mk) w) : Piece P n ds rd (.loop body) Q e w := by
  intro hk
  have hk' : okC n body = true := by simpa [okC] using hk
  intro b kk cs hro hb hr0
  have key : ∀ k p e1 w, m p = k → Has e1 (slots p) → e1 mark = mk → Inv p w →
      ∃ x a' w', lift n ds Q x a' w' ∧ ArrivesIn (Machine.fenced P (fen rd)) P (lone (b.atR (ag n ds e1) (.code body :: .inLoop body :: kk)) cs w) b kk cs x a' w' := by
    intro k
    induction k using Nat.strongRecOn with
    | _ k ih =>
      intro p e1 w hk hh hmk hI
      have hr := VCC_sound hG body hk' (round p e1 w hI)
      rw [setL_mark hh hmk] at hr
      obtain ⟨x, a₁, w₁, ⟨e₁, rfl, hq⟩, harr⟩ := hr b (.inLoop body :: kk) cs hro hb hr0
      cases x with
      | normal =>
        obtain ⟨p', hh', hI', hlt⟩ := Again.h hq
        obtain ⟨x₂, a₂, w₂, hq₂, harr₂⟩ := ih (m p') (hk ▸ hlt) p' e₁ w₁ rfl hh' (Again.mk_ hq) hI'
        exact ⟨x₂, a₂, w₂, hq₂, .of_steps (StepsIn.trans harr (.one (fenced_calm hb hr0 rfl) stepR_inLoop)) harr₂⟩
      | exit id => exact ⟨_, _, w₁, ⟨e₁, rfl, hq⟩, .pass (x := .inLoop body) rfl (fun _ _ => .inl (by simp)) harr⟩
      | goto l => exact ⟨_, _, w₁, ⟨e₁, rfl, hq⟩, .pass (x := .inLoop body) rfl (fun _ _ => .inl (by simp)) harr⟩
      | ret => exact ⟨_, _, w₁, ⟨e₁, rfl, hq⟩, .pass (x := .inLoop body) rfl (fun _ _ => .inl (by simp)) harr⟩
      | panic ch => exact ⟨_, _, w₁, ⟨e₁, rfl, hq⟩, .pass (x := .inLoop body) rfl (fun _ _ => .inl (by simp)) harr⟩
      | outgrown => exact ⟨_, _, w₁, ⟨e₁, rfl, hq⟩, .pass (x := .inLoop body) rfl (fun _ _ => .inl (by simp)) harr⟩
  obtain ⟨x, a', w', hq, harr⟩ := key _ p0 e w rfl hs hmk0 h0
  exact ⟨x, a', w', hq, .of_steps (.one (fenced_calm hb hr0 rfl) stepR_loop) harr⟩

theorem loop (hG : Agree P Γ) {Q : Exit → Env → World → Prop} {e : Env} {w : World} {σ : Type} (slots : σ → List (Nat × Value)) (Inv : σ → World → Prop) (m : σ → Nat) (p0 : σ) {body : Code}
    (hs : Has e (slots p0)) (h0 : Inv p0 w)
    (round : ∀ p e0 w, Inv p w → VCC P Γ n ds rd body (fun x e' w' => match x with
      | .normal => Again slots Inv m p e' w'
      | x => Q x e' w') (upd (setL e0 (slots p)) mark undef) w) (hmk : e mark = undef := by rfl) : Piece P n ds rd (.loop body) Q e w :=
  loopK hG undef slots Inv m p0 hmk hs h0 round

/-- outside S nothing that was there has turned -/
structure Chg (S : Nat → Prop) (w w' : World) : Prop where
  os : w'.os = w.os
  tape : w'.tape = w.tape
  output : w'.output = w.output
  size : w.heap.size ≤ w'.heap.size
  block : ∀ k, k < w.heap.size → ¬ S k → w'.heap[k]? = w.heap[k]?

/-! ### a function -/
def envA : List Value → Env
  | [], _ => undef
  | v :: _, 0 => v
  | _ :: r, i + 1 => envA r i

theorem envA_eq (l : List Value) : ∀ i, envA l i = (l[i]?).getD undef := by
  induction l with
  | nil => intro i; cases i <;> rfl
  | cons v r ih => intro i; cases i with
    | zero => rfl
    | succ i => simpa [envA] using ih i

theorem ag_args (l : List Value) (n : Nat) (h : l.length ≤ n) (hm : n ≤ mark) : ({ tmps := l.toArray ++ Array.replicate (n - l.length) undef, defers := [] } : Act) = ag n [] (envA l) := by
  have hmk : envA l mark = undef := by rw [envA_eq, List.getElem?_eq_none (by omega)]; rfl
  simp only [ag, hmk]
  congr 1
  apply Array.ext
  · simp; omega
  · intro i h1 h2
    simp only [List.getElem_toArray, List.getElem_map, List.getElem_range, envA_eq]
    rw [Array.getElem_append]
    split
    · rename_i hi
      have hi' : i < l.length := by simpa using hi
      simp [hi']
    · rename_i hi
      have hi' : l.length ≤ i := by simpa using hi
      simp [hi']

def pack : List Value → Value
  | [v] => v
  | vs => .tuple vs.toArray

/-- what a function hands back -/
noncomputable def finL (P : Program) (R : Value → World → Prop) (e : Env) (w : World) (rs : List ResultVar) : List Value → Prop :=
  List.rec (motive := fun _ => List Value → Prop) (fun acc => R (pack acc) w)
    (fun r _ ih acc => match r with
      | .tmp a => ih (acc ++ [e a])
      | .cell a t => Ld P t (e a) w fun v => ih (acc ++ [v])) rs

/-- the marks are taken -/
noncomputable def finM (P : Program) (R : Value → World → Prop) (e : Env) (w : World) (rs : List ResultVar) (l : List Nat) : Prop :=
  List.casesOn (motive := fun _ => Prop) l (finL P R e w rs []) fun d r => (∀ x ∈ d :: r, w.heap[x]? = some (.deferred (some []))) ∧ (d :: r).Nodup ∧ ∀ w', w'.heap.size = w.heap.size → Chg (fun k => k ∈ d :: r) w w' → finL P R e w' rs []
/-- where a function ends -/
noncomputable def fin (P : Program) (rs : List ResultVar) (R : Value → World → Prop) : Exit → Env → World → Prop
  | .normal, e, w | .ret, e, w => finM P R e w rs (dsN (e mark))
  | _, _, _ => False

def okR (n : Nat) : List ResultVar → Bool
  | [] => true
  | .tmp t :: r => Nat.blt t n && okR n r
  | .cell t _ :: r => Nat.blt t n && okR n r

theorem asAddr_of {t : TypeId} {a v : Value} {w w' : World} (h : (Instr.loadAt t a).run P w = .ok v w') : (do loadVar t (← asAddr a) : Sem Value).run P w = .ok v w' := by
  unfold Instr.loadAt Instr.sureAddr at h
  rw [Sem.run_bind] at h ⊢
  cases a with
  | pointer q =>
    cases q with
    | none => simp [Result.andThen, runtimePanic, Sem.run_bind] at h
    | some q => simpa [asAddr, Result.andThen] using h
  | _ => simp [asAddr, Result.andThen] at h

theorem finL_spec {R : Value → World → Prop} {e : Env} {w : World} (f : ResultVar → Sem Value) (hf : ∀ u, f (.tmp u) = pure ((ag n ds e).tmps.getD u undef)) (hc : ∀ a t, f (.cell a t) = (do loadVar t (← asAddr ((ag n ds e).tmps.getD a undef)))) :
    ∀ (rs : List ResultVar) (acc : List Value), okR n rs = true → finL P R e w rs acc → ∃ vs, (rs.mapM f).run P w = .ok vs w ∧ R (pack (acc ++ vs)) w
  | [], acc, _, h => ⟨[], by simp, by rw [List.append_nil]; exact h⟩
  | .tmp a :: r, acc, hk, h => by
    simp only [okR, Bool.and_eq_true] at hk
    obtain ⟨vs, h1, h2⟩ := finL_spec f hf hc r (acc ++ [e a]) hk.2 h
    refine ⟨e a :: vs, ?_, by simpa using h2⟩
    rw [List.mapM_cons, hf, ag_get hk.1]
    simp [h1]
  | .cell a t :: r, acc, hk, h => by
    simp only [okR, Bool.and_eq_true] at hk
    obtain ⟨v, hv, h⟩ := Ld.h h
    obtain ⟨vs, h1, h2⟩ := finL_spec f hf hc r (acc ++ [v]) hk.2 h
    refine ⟨v :: vs, ?_, by simpa using h2⟩
    rw [List.mapM_cons, hc, ag_get hk.1, Sem.run_bind, asAddr_of hv]
    simp [h1]

theorem results_fin {R : Value → World → Prop} {e : Env} {w : World} {fn : Func} (hk : okR n fn.results.toList = true) (h : finL P R e w fn.results.toList []) : ∃ v, (results fn (ag n ds e).tmps).run P w = .ok v w ∧ R v w := by
  unfold results
  obtain ⟨vs, h1, h2⟩ := finL_spec (ds := ds) (n := n) (fun
    | .tmp t => pure ((ag n ds e).tmps.getD t undef)
    | .cell a t => do loadVar t (← asAddr ((ag n ds e).tmps.getD a undef))) (fun _ => rfl) (fun _ _ => rfl) fn.results.toList [] hk h
  refine ⟨pack vs, ?_, by simpa using h2⟩
  rw [show fn.results = fn.results.toList.toArray from rfl, List.mapM_toArray, Sem.run_bind, Sem.run_map]
  refine (congrArg (fun r => ((r : Result (List Value)).andThen _).andThen _) h1).trans ?_
  rcases vs with _ | ⟨v, _ | ⟨v2, r⟩⟩ <;> simp [pack, Result.andThen]

theorem leaves_marks {fn : Func} {R : Value → World → Prop} {e : Env} (hk : okR n fn.results.toList = true) : ∀ (l : List Nat) (w : World), (∀ x ∈ l, w.heap[x]? = some (.deferred (some []))) → l.Nodup →
    (∀ w', w'.heap.size = w.heap.size → Chg (fun k => k ∈ l) w w' → finL P R e w' fn.results.toList []) → LeavesInM Fence.wide 0 P fn (ag n [] e).tmps (Ret R) (l.map fun d => { target := .collected d, args := #[] }) .returning w
  | [], w, _, _, hf => results_fin hk (hf w rfl ⟨rfl, rfl, rfl, Nat.le_refl _, fun _ _ _ => rfl⟩)
  | d :: l, w, hd, hn, hf => by
    have hn' := List.nodup_cons.1 hn
    have hb := hd d List.mem_cons_self
    refine ⟨by simp, .inl ⟨d, w.putObj d (.deferred none), rfl, run_takeDeferred hb, ?_⟩⟩
    refine leaves_marks hk l _ (fun x hx => ?_) hn'.2 fun w' hs hc => hf w' ?_ ?_
    · rw [World.putObj_heap_other (show x ≠ d from fun he => hn'.1 (he ▸ hx))]
      exact hd x (List.mem_cons_of_mem _ hx)
    · rw [hs]; simp [World.putObj]
    · refine ⟨hc.os, hc.tape, hc.output, ?_, fun k hk hnk => ?_⟩
      · have := hc.size; simpa [World.putObj] using this
      · rw [hc.block k (by simpa [World.putObj] using hk) fun h => hnk (List.mem_cons_of_mem _ h), World.putObj_heap_other (show k ≠ d from fun he => hnk (he ▸ List.mem_cons_self))]
/-- A call keeps its contract, if its body's walk does. -/
theorem call (hG : Agree P Γ) {f : FuncId} {fn : Func} {c : Code} {args : List Value} {w : World} {R : Value → World → Prop} (hf : P.funcs[f]? = some fn) (hb : fn.body = some c) (hn : fn.ntmps = n)
    (hok : (okC n c && okR n fn.results.toList && Nat.ble args.length n && Nat.ble n mark) = true) (h : VCC P Γ n [] none c (fin P fn.results.toList R) (envA args) w) : Calls P f args.toArray w (Ret R) := by
  rw [Bool.and_eq_true, Bool.and_eq_true, Bool.and_eq_true] at hok
  obtain ⟨⟨⟨h1, h2⟩, h3⟩, h4⟩ := hok
  have h3 := Nat.le_of_ble_eq_true h3
  have h4 := Nat.le_of_ble_eq_true h4
  refine callsIn_wide.1 (callsIn_of_wp_marks (F := Fence.wide) (n := 0) hf hb trivial ?_)
  rw [hn]
  have := ag_args args n h3 h4
  simp only [List.size_toArray] at this ⊢
  rw [this]
  refine Code.wpIn_mono ?_ (VCC_sound hG c h1 h)
  rintro x a w ⟨e, rfl, hq⟩
  have key : fin P fn.results.toList R .ret e w → LeavesInM Fence.wide 0 P fn (ag n [] e).tmps (Ret R) (ag n [] e).defers .returning w := by
    intro hq
    have hde : (ag n [] e).defers = (dsN (e mark)).map fun d => { target := .collected d, args := #[] } := by simp [ag, dsOf]
    rw [hde]
    change finM P R e w fn.results.toList (dsN (e mark)) at hq
    cases hl : dsN (e mark) with
    | nil =>
      rw [hl] at hq
      exact results_fin h2 hq
    | cons d r =>
      rw [hl] at hq
      obtain ⟨q1, q2, q3⟩ := hq
      exact leaves_marks h2 (d :: r) w q1 q2 q3
  cases x with
  | normal => exact key hq
  | ret => exact key hq
  | _ => exact hq.elim

end
end Go.Au
