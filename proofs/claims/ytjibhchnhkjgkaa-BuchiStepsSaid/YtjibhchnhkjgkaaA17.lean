/- Own text of this workplace: a part of the proofs of this place's statements. -/
import Derived.Test.YtjibhchnhkjgkaaA12
set_option linter.unusedVariables false
set_option linter.unusedSimpArgs false
set_option linter.unusedSectionVars false
namespace Go.Au
open Go Go.RowKit

/-! ### a loop whose rounds leave marks -/
def marksV : List Nat → Value
  | [] => undef
  | d :: r => pushD d (marksV r)
section
variable {P : Program} {Γ : List (Nat × TI)} {n : Nat} {ds : List Deferred} {rd : Option Nat}
structure AgainM {σ : Type} (mk : σ → Value) (slots : σ → List (Nat × Value)) (Inv : σ → World → Prop) (m : σ → Nat) (p : σ) (e : Env) (w : World) : Prop where
  h : ∃ p', Has e (slots p') ∧ e mark = mk p' ∧ Inv p' w ∧ m p' < m p

theorem loopM (hG : Agree P Γ) {Q : Exit → Env → World → Prop} {e : Env} {w : World} {σ : Type} (mk : σ → Value) (slots : σ → List (Nat × Value)) (Inv : σ → World → Prop) (m : σ → Nat) (p0 : σ) {body : Code}
    (hmk0 : e mark = mk p0) (hs : Has e (slots p0)) (h0 : Inv p0 w)
    (round : ∀ p e0 w, Inv p w → VCC P Γ n ds rd body (fun x e' w' => match x with
      | .normal => AgainM mk slots Inv m p e' w'
      | x => Q x e' w') (upd (setL e0 (slots p)) mark (mk p)) w) : Piece P n ds rd (.loop body) Q e w := by
  intro hk
  have hk' : okC n body = true := by simpa [okC] using hk
  intro b kk cs hro hb hr0
  have key : ∀ k p e1 w, m p = k → Has e1 (slots p) → e1 mark = mk p → Inv p w →
      ∃ x a' w', lift n ds Q x a' w' ∧ ArrivesIn (Machine.fenced P (fen rd)) P (lone (b.atR (ag n ds e1) (.code body :: .inLoop body :: kk)) cs w) b kk cs x a' w' := by
    intro k
    induction k using Nat.strongRecOn with
    | _ k ih =>
      intro p e1 w hk hh hmk hI
      have hr := VCC_sound hG body hk' (round p e1 w hI)
      rw [setL_mark hh hmk] at hr
      obtain ⟨x, a₁, w₁, ⟨e₁, rfl, hq⟩, harr⟩ := hr b (.inLoop body :: kk) cs hro hb hr0
      cases x with
      | normal =>
        obtain ⟨p', hh', hm', hI', hlt⟩ := AgainM.h hq
        obtain ⟨x₂, a₂, w₂, hq₂, harr₂⟩ := ih (m p') (hk ▸ hlt) p' e₁ w₁ rfl hh' hm' hI'
        exact ⟨x₂, a₂, w₂, hq₂, .of_steps (StepsIn.trans harr (.one (fenced_calm hb hr0 rfl) stepR_inLoop)) harr₂⟩
      | exit id => exact ⟨_, _, w₁, ⟨e₁, rfl, hq⟩, .pass (x := .inLoop body) rfl (fun _ _ => .inl (by simp)) harr⟩
      | goto l => exact ⟨_, _, w₁, ⟨e₁, rfl, hq⟩, .pass (x := .inLoop body) rfl (fun _ _ => .inl (by simp)) harr⟩
      | ret => exact ⟨_, _, w₁, ⟨e₁, rfl, hq⟩, .pass (x := .inLoop body) rfl (fun _ _ => .inl (by simp)) harr⟩
      | panic ch => exact ⟨_, _, w₁, ⟨e₁, rfl, hq⟩, .pass (x := .inLoop body) rfl (fun _ _ => .inl (by simp)) harr⟩
      | outgrown => exact ⟨_, _, w₁, ⟨e₁, rfl, hq⟩, .pass (x := .inLoop body) rfl (fun _ _ => .inl (by simp)) harr⟩
  obtain ⟨x, a', w', hq, harr⟩ := key _ p0 e w rfl hs hmk0 h0
  exact ⟨x, a', w', hq, .of_steps (.one (fenced_calm hb hr0 rfl) stepR_loop) harr⟩
theorem againM {σ : Type} {mk : σ → Value} {slots : σ → List (Nat × Value)} {Inv : σ → World → Prop} {m : σ → Nat} {p : σ} {e : Env} {w : World} (p' : σ) (h1 : Has e (slots p')) (h2 : e mark = mk p') (h3 : Inv p' w) (h4 : m p' < m p) : AgainM mk slots Inv m p e w := ⟨⟨p', h1, h2, h3, h4⟩⟩
end
section
variable {P : Program} {Γ : List (Nat × TI)} {ρ : Operand → Value} {o : Oper} {K : Value → Prop}
/-- equality of values that are no numbers, texts, structs -/
theorem prEq {op : BinOp} {t t' : TypeId} {x y : Operand} {a b : Value} {r : Bool} (hop : op = .eql ∨ op = .neq) (ho : o.op = .binOp op t x y t') (hx : ρ x = a) (hy : ρ y = b)
    (ha : match a with | .func .. | .pointer _ | .nilFunc => True | _ => False) (hb : match b with | .func .. | .pointer _ | .nilFunc => True | _ => False) (hr : ∀ W, (Op.equal t a b).run P W = .ok r W) (hk : K (.bool (match op with | .eql => r | _ => !r))) : PR P ρ o K := by
  refine ⟨_, pure_value (s := (do eqGuard op t x y a b; binOp op t a b)) (by unfold execOp; rw [ho]; simp only [hx, hy]) fun W => ?_, hk⟩
  have hg : (eqGuard op t x y a b).run P W = .ok () W := by
    unfold eqGuard
    cases a <;> first | exact ha.elim | skip
    all_goals (cases b <;> first | exact hb.elim | skip)
    all_goals (rcases hop with rfl | rfl <;> simp)
  rw [Sem.run_bind, hg]
  simp only [Result.andThen]
  cases a <;> first | exact ha.elim | skip
  all_goals (cases b <;> first | exact hb.elim | skip)
  all_goals (rcases hop with rfl | rfl <;> (simp only [binOp]; rw [Sem.run_bind, hr]; rfl))
def isFn (Γ : List (Nat × TI)) (t : TypeId) : Bool := match look Γ t with
  | some ti => match ti.desc with
    | .func .. => true
    | _ => false
  | none => false
def isPtr (Γ : List (Nat × TI)) (t : TypeId) : Bool := match look Γ t with
  | some ti => match ti.desc with
    | .pointer _ => true
    | _ => false
  | none => false
theorem run_equalIn_fn_nil (d : Nat) {t : TypeId} {ps rs vd} (W : World) (hu : P.underlying t = some (.func ps rs vd)) (f : Fn) (a b : Array Value) : (Op.equalIn (d + 1) t (.func f a b) .nilFunc).run P W = .ok false W := by simp [Op.equalIn, run_underlying hu]
theorem run_equalIn_ptr_nil' (d : Nat) {t el : TypeId} (W : World) (hu : P.underlying t = some (.pointer el)) (p : Option Addr) : (Op.equalIn (d + 1) t (.pointer p) (.pointer none)).run P W = .ok p.isNone W := by cases p <;> simp [Op.equalIn, run_underlying hu]
theorem run_fn_nil (hG : Agree P Γ) {t : TypeId} (ht : isFn Γ t = true) (f : Fn) (a b : Array Value) (W : World) : (Op.equal t (.func f a b) .nilFunc).run P W = .ok false W := by
  unfold isFn at ht
  split at ht
  · rename_i ti hl
    have hu := (hG.look hl).1
    split at ht
    · rename_i hd
      simp only [hd] at hu
      exact run_equalIn_fn_nil 9999 W hu f a b
    · cases ht
  · cases ht
theorem run_ptr_nil (hG : Agree P Γ) {t : TypeId} (ht : isPtr Γ t = true) (p : Option Addr) (W : World) : (Op.equal t (.pointer p) (.pointer none)).run P W = .ok p.isNone W := by
  unfold isPtr at ht
  split at ht
  · rename_i ti hl
    have hu := (hG.look hl).1
    split at ht
    · rename_i hd
      simp only [hd] at hu
      exact run_equalIn_ptr_nil' 9999 W hu p
    · cases ht
  · cases ht
theorem fnNil (hG : Agree P Γ) {t t' : TypeId} {x y : Operand} {f : Fn} {a b : Array Value} (ho : o.op = .binOp .eql t x y t') (hx : ρ x = .func f a b) (hy : ρ y = .nilFunc) (ht : isFn Γ t = true) (hk : K (.bool false)) : PR P ρ o K :=
  prEq (.inl rfl) ho hx hy trivial trivial (fun W => run_fn_nil hG ht f a b W) hk
theorem ptrNil (hG : Agree P Γ) {t t' : TypeId} {x y : Operand} {p : Option Addr} (ho : o.op = .binOp .eql t x y t') (hx : ρ x = .pointer p) (hy : ρ y = .pointer none) (ht : isPtr Γ t = true) (hk : K (.bool p.isNone)) : PR P ρ o K :=
  prEq (.inl rfl) ho hx hy trivial trivial (fun W => run_ptr_nil hG ht p W) hk
theorem ptrNotNil (hG : Agree P Γ) {t t' : TypeId} {x y : Operand} {p : Option Addr} (ho : o.op = .binOp .neq t x y t') (hx : ρ x = .pointer p) (hy : ρ y = .pointer none) (ht : isPtr Γ t = true) (hk : K (.bool (!p.isNone))) : PR P ρ o K :=
  prEq (.inr rfl) ho hx hy trivial trivial (fun W => run_ptr_nil hG ht p W) hk
end
end Go.Au
