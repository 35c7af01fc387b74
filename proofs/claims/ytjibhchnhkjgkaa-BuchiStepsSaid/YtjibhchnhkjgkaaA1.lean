/- Own text of this workplace: a part of the proofs of this place's statements. -/
import Derived.Orders
import Derived.WalkKit
import Derived.Lib.Strings
import Derived.Test.YtjibhchnhkjgkaaA0
set_option linter.unusedVariables false
set_option linter.unusedSimpArgs false
set_option linter.unusedSectionVars false
namespace Go.Au
open Go Go.RowKit

/-- what an operation does: a value, nothing, a call, or a round of a loop -/
def Does (P : Program) (ρ : Operand → Value) (o : Oper) (w : World) (K : Value → World → Prop) : Prop :=
  (∃ v w', (execOp ρ o).run P w = .ok (.value v) w' ∧ K v w') ∨ (∃ w', (execOp ρ o).run P w = .ok .skip w' ∧ K undef w') ∨
  (∃ g args, (execOp ρ o).run P w = .ok (.enter g args) w ∧ Calls P g args w (Ret K)) ∨
  (∃ l f tmps assign body, (execOp ρ o).run P w = .ok (.round l f tmps assign body) w ∧ RoundIn Fence.wide 0 P l f tmps assign body w (Ret K))

theorem Does.mono {P ρ o w} {K K' : Value → World → Prop} (h : Does P ρ o w K) (hk : ∀ v w', K v w' → K' v w') : Does P ρ o w K' := by
  have hr : ∀ e w', Ret K e w' → Ret K' e w' := fun e w' hr => by cases e <;> first | exact hk _ _ hr | exact hr
  rcases h with ⟨v, w', h, k⟩ | ⟨w', h, k⟩ | ⟨g, args, h, k⟩ | ⟨l, f, t, a, b, h, k⟩
  · exact .inl ⟨v, w', h, hk _ _ k⟩
  · exact .inr (.inl ⟨w', h, hk _ _ k⟩)
  · exact .inr (.inr (.inl ⟨g, args, h, k.mono hr⟩))
  · exact .inr (.inr (.inr ⟨l, f, t, a, b, h, k.mono hr⟩))

theorem Does.upon {P o w} {rd : Option Nat} {K : Value → World → Prop} {a : Act} {next : Act → World → Prop} {Q : Exit → Act → World → Prop} (h : Does P a.eval o w K) (hd : ∀ c, o.op ≠ .defer c)
    (hk : ∀ v w', K v w' → next (a.put o.dst v) w') : o.wpIn (fen rd) 0 P a w next Q := by
  refine ⟨fun _ _ => trivial, ?_⟩
  rw [Oper.semAt_eq _ _ _ hd]
  have hdep : (fen rd).depth.isSome = true → 1 ≤ 0 := fun h => by simp [fen, Fence.wide] at h
  rcases h with ⟨v, w', h, k⟩ | ⟨w', h, k⟩ | ⟨g, args, h, k⟩ | ⟨l, f, t, as, b, h, k⟩
  · rw [h]; exact hk _ _ k
  · rw [h]; exact hk _ _ k
  · rw [h, Oper.uponIn_enter]
    have hc : CallsIn (fen rd) (0 - 1) P g args w (Ret K) := (callsIn_wide (n := 0)).2 k
    refine ⟨hdep, hc.mono ?_⟩
    intro e w' hr
    cases e with
    | returned v => exact hk _ _ hr
    | panicked c => exact hr.elim
    | outgrown => exact hr.elim
  · rw [h, Oper.uponIn_round]
    have hc : RoundIn (fen rd) (0 - 1) P l f t as b w (Ret K) := k
    refine ⟨hdep, hc.mono ?_⟩
    intro e w' hr
    cases e with
    | returned v => exact hk _ _ hr
    | panicked c => exact hr.elim
    | outgrown => exact hr.elim

theorem Raw.does {P ρ o w K} (h : Raw P ρ o w K) : Does P ρ o w K := .inl h.h

section
variable {P : Program} {e : Env} {w : World} {K : Value → World → Prop} {Γ : List (Nat × TI)}

theorem does_v {o : Oper} {ρ} {v w'} (hop : (execOp ρ o).run P w = .ok (.value v) w') (hk : K v w') : Does P ρ o w K := .inl ⟨v, w', hop, hk⟩
theorem does_value {o : Oper} {ρ} {s : Sem Value} {v w'} (hop : execOp ρ o = (do let x ← s; pure (Next.value x))) (hs : s.run P w = .ok v w') (hk : K v w') : Does P ρ o w K :=
  .inl ⟨v, w', by rw [hop]; simp [hs, Result.andThen], hk⟩
theorem does_unit {o : Oper} {ρ} {s : Sem Unit} {w'} (hop : execOp ρ o = (do s; pure Next.skip)) (hs : s.run P w = .ok () w') (hk : K undef w') : Does P ρ o w K :=
  .inr (.inl ⟨w', by rw [hop]; simp [hs, Result.andThen], hk⟩)

theorem newB (w : World) (o : Obj) : NewB w w.heap.size o (w.alloc o) := ⟨rfl, rfl⟩

theorem cellsL_eq (v : Value) : cellsL v = v.cells.toList := by cases v <;> rfl

theorem guard_int (op : BinOp) (t : TypeId) (x y : Operand) (k k' : IntKind) (a b : Int) : (eqGuard op t x y (.int k a) (.int k' b)).run P w = .ok () w := by
  unfold eqGuard; cases op <;> simp

theorem run_bin_int (op : BinOp) (t : TypeId) (x y : Operand) (k k' : IntKind) (a b : Int) {v : Value} (h : (binOp op t (.int k a) (.int k' b)).run P w = .ok v w) :
    (do eqGuard op t x y (.int k a) (.int k' b); binOp op t (.int k a) (.int k' b) : Sem Value).run P w = .ok v w := by
  simp [guard_int, h, Result.andThen]


theorem pure_value {o : Oper} {ρ} {s : Sem Value} {v} (hop : execOp ρ o = (do let x ← s; pure (Next.value x))) (hs : ∀ W, s.run P W = .ok v W) : Pure P ρ o v :=
  fun W => by rw [hop]; simp [hs, Result.andThen]

theorem pure_bin {o : Oper} {op : BinOp} {t t' : TypeId} {x y : Operand} {k k' : IntKind} {a b : Int} {v : Value} (ho : o.op = .binOp op t x y t') (hx : ev e x = .int k a) (hy : ev e y = .int k' b)
    (h : ∀ W, (binOp op t (.int k a) (.int k' b)).run P W = .ok v W) : Pure P (ev e) o v :=
  pure_value (s := (do eqGuard op t x y (.int k a) (.int k' b); binOp op t (.int k a) (.int k' b))) (by unfold execOp; rw [ho]; simp only [hx, hy]) (fun W => run_bin_int op t x y k k' a b (h W))

theorem bits_run (op : BinOp) (k : IntKind) (a b : Int) (w : World) (h : op = .and ∨ op = .or ∨ op = .xor ∨ op = .andNot) : (Op.intBits op k a b).run P w = .ok (.int k (bits op k a b)) w := by
  rcases h with rfl | rfl | rfl | rfl <;> rfl

theorem str_ne {a b : ByteArray} (h : ¬ a = b) : (a.toList == b.toList) = false := by
  rw [beq_eq_false_iff_ne, Lib.toList_data, Lib.toList_data]
  intro h'
  apply h
  cases a; cases b
  simpa using h'

theorem run_und {t d} (h : P.underlying t = some d) (w : World) : (underlying t).run P w = .ok d w := by
  simp [underlying, program, Sem.run, h]

theorem run_info {t i} (h : P.info? t = some i) (w : World) : (typeInfo t).run P w = .ok i w := by
  simp [typeInfo, program, Sem.run, h]

theorem run_size {t ti} (h : TIok P (t, ti)) (w : World) : (sizeOf t).run P w = .ok ti.size w := by
  obtain ⟨i, hi, _, hs, _⟩ := h.info
  simp [sizeOf, run_info hi, Result.andThen, hs]

theorem run_zero {t ti} (h : TIok P (t, ti)) (w : World) : (zeroValue t).run P w = .ok ti.zero w := by
  obtain ⟨i, hi, hz, _, _⟩ := h.info
  simp [zeroValue, run_info hi, Result.andThen, hz]

theorem eq_fields (hG : Agree P Γ) (W : World) : ∀ (fs : List Field) (xs ys : List Value) (px py : List Value) (k : Nat), px.length = k → py.length = k → eqOk Γ fs xs ys = true → offsOk fs k = true →
    ∃ b, (Op.eqFields 9999 (px ++ xs).toArray (py ++ ys).toArray fs).run P W = .ok b W ∧ (b = true ↔ xs = ys)
  | [], [], [], _, _, _, _, _, _, _ => ⟨true, by simp [Op.eqFields], by simp⟩
  | [], x :: xs, _, _, _, _, _, _, h, _ => by simp [eqOk] at h
  | [], [], y :: ys, _, _, _, _, _, h, _ => by simp [eqOk] at h
  | f :: fs, [], _, _, _, _, _, _, h, _ => by simp [eqOk] at h
  | f :: fs, x :: xs, [], _, _, _, _, _, h, _ => by simp [eqOk] at h
  | f :: fs, x :: xs, y :: ys, px, py, k, hx, hy, h, ho => by
    simp only [eqOk] at h
    simp only [offsOk, Bool.and_eq_true] at ho
    have hoff := Nat.eq_of_beq_eq_true ho.1
    split at h
    · rename_i ti hl
      simp only [Bool.and_eq_true, Bool.not_eq_true'] at h
      obtain ⟨⟨h1, h2⟩, h3⟩ := h
      have hn : f.name ≠ "_" := by simpa using h2
      have hu := (hG.look hl).1
      obtain ⟨b0, ih, hih⟩ := eq_fields hG W fs xs ys (px ++ [x]) (py ++ [y]) (k + 1) (by simp [hx]) (by simp [hy]) h3 ho.2
      simp only [List.append_assoc, List.singleton_append] at ih
      have hpx : (px ++ x :: xs).toArray[f.offset]? = some x := by simp [hoff, ← hx]
      have hpy : (py ++ y :: ys).toArray[f.offset]? = some y := by simp [hoff, ← hy]
      have hpart : ∀ (cs : Array Value) (v : Value), isAggD ti.desc = false → cs[f.offset]? = some v → (part f.type cs f.offset).run P W = .ok v W := fun cs v ha hc => by
        have hagg : (isAgg f.type).run P W = .ok false W := by
          unfold isAgg
          rw [Sem.run_bind, run_und hu W]
          revert ha
          cases ti.desc <;> simp [isAggD, Result.andThen]
        unfold part
        simp [hagg, Result.andThen, hc]
      have fin : ∀ (b : Bool), isAggD ti.desc = false → (Op.equalIn 9999 f.type x y).run P W = .ok b W → (b = true ↔ x = y) →
          ∃ b, (Op.eqFields 9999 (px ++ x :: xs).toArray (py ++ y :: ys).toArray (f :: fs)).run P W = .ok b W ∧ (b = true ↔ x :: xs = y :: ys) := fun b ha hb hiff => by
        unfold Op.eqFields
        rw [if_pos hn]
        simp only [Sem.run_bind, hpart _ _ ha hpx, hpart _ _ ha hpy, Result.andThen_ok, hb]
        cases b with
        | true =>
          have := hiff.1 rfl
          subst this
          exact ⟨b0, by simp only [Bool.not_true, Bool.false_eq_true, if_false, ih], by simp [hih]⟩
        | false =>
          have hne : x ≠ y := fun h => by have := hiff.2 h; cases this
          exact ⟨false, by simp, by simp [hne]⟩
      split at h1
      · rename_i ki k a k' b hd
        obtain rfl := kq_inj h1
        exact fin (a == b) (by rw [hd]; rfl) (run_equalIn_int W 9998 f.type k ki a b (by rw [hu, hd])) (by simp)
      · rename_i a b hd
        exact fin (a == b) (by rw [hd]; rfl) (run_equalIn_bool' W 9998 f.type a b (by rw [hu, hd])) (by simp)
      · rename_i a b hd
        refine fin (a.toList == b.toList) (by rw [hd]; rfl) (run_equalIn_string W 9998 f.type a b (by rw [hu, hd])) ?_
        constructor
        · intro h
          by_cases hc : a = b
          · rw [hc]
          · rw [str_ne hc] at h; cases h
        · intro h
          injection h with h
          simp [h]
      · cases h1
    · cases h

theorem fieldsOf_look (hG : Agree P Γ) {t : TypeId} {ti : TI} {fs : Array Field} (hl : look Γ t = some ti) (hd : ti.desc = .struct fs) : P.underlying t = some (.struct (P.fieldsOf t)) ∧ P.fieldsOf t = fs := by
  have hu := (hG.look hl).1
  simp only [hd] at hu
  have : P.fieldsOf t = fs := by unfold Program.fieldsOf; rw [hu]
  rw [this]
  exact ⟨hu, rfl⟩
theorem run_eqAgg (hG : Agree P Γ) {t : TypeId} {ti : TI} {fs : Array Field} {as bs : Array Value} (hl : look Γ t = some ti) (hd : ti.desc = .struct fs) (hok : (eqOk Γ fs.toList as.toList bs.toList && offsOk fs.toList 0) = true) (hp : P.stoodInHeld t = false) (W : World) :
    ∃ b, (Op.equalIn 10000 t (.agg as) (.agg bs)).run P W = .ok b W ∧ (b = true ↔ as = bs) := by
  obtain ⟨h1, h2⟩ := fieldsOf_look hG hl hd
  rw [run_equalIn_struct W 9999 t as bs h1 hp, h2]
  rw [Bool.and_eq_true] at hok
  obtain ⟨b, h3, h4⟩ := eq_fields hG W fs.toList as.toList bs.toList [] [] 0 rfl rfl hok.1 hok.2
  simp only [List.nil_append, Array.toArray_toList] at h3
  exact ⟨b, h3, h4.trans Array.toList_inj⟩

theorem opP_bin (hG : Agree P Γ) {KP : Value → Prop} {raw : Prop} {o : Oper} {op : BinOp} {t t' : TypeId} {x y : Operand} (ho : o.op = .binOp op t x y t') (h : opP P Γ e o raw KP) : raw ∨ ∃ v, KP v ∧ Pure P (ev e) o v := by
  unfold opP at h
  rw [ho] at h
  simp only at h
  split at h
  · rename_i k a k' b hx hy
    cases op <;> simp only at h
    case shl =>
      obtain ⟨h0, h⟩ := h
      refine .inr ⟨_, h.h _ rfl, pure_bin ho hx hy fun W => ?_⟩
      simp only [binOp, Op.shift]
      rw [if_neg (by omega)]; rfl
    case shr =>
      obtain ⟨h0, h⟩ := h
      refine .inr ⟨_, h.h _ rfl, pure_bin ho hx hy fun W => ?_⟩
      simp only [binOp, Op.shift]
      rw [if_neg (by omega)]; rfl
    all_goals
      cases hk : Nat.beq (kq k) (kq k') with
      | false => rw [hk] at h; exact h.elim
      | true =>
        rw [hk] at h
        obtain rfl := kq_inj hk
        simp only [cond_true] at h
        refine .inr ?_
        first
        | (refine ⟨_, h.h _ rfl, pure_bin ho hx hy fun W => ?_⟩; simp [binOp, Op.intArith]; done)
        | (refine ⟨_, h.h _ rfl, pure_bin ho hx hy fun W => ?_⟩; simp only [binOp, ne_eq, not_true_eq_false, if_false]; exact bits_run _ _ _ _ _ (by simp))
        | (obtain ⟨h0, h⟩ := h; refine ⟨_, h.h _ rfl, pure_bin ho hx hy fun W => ?_⟩; simp [binOp, Op.intDiv, h0]; done)
        | (by_cases hc : a = b
           · first
             | exact ⟨.bool true, h.1 hc, pure_bin ho hx hy fun W => by simp [binOp, Op.intCmp, hc]⟩
             | exact ⟨.bool false, h.2 (by simpa using hc), pure_bin ho hx hy fun W => by simp [binOp, Op.intCmp, hc]⟩
           · first
             | exact ⟨.bool false, h.2 hc, pure_bin ho hx hy fun W => by simp [binOp, Op.intCmp, hc]⟩
             | exact ⟨.bool true, h.1 hc, pure_bin ho hx hy fun W => by simp [binOp, Op.intCmp, hc]⟩)
        | (by_cases hc : a < b
           · exact ⟨.bool true, h.1 hc, pure_bin ho hx hy fun W => by simp [binOp, Op.intCmp, hc]⟩
           · exact ⟨.bool false, h.2 hc, pure_bin ho hx hy fun W => by simp [binOp, Op.intCmp]; omega⟩)
        | (by_cases hc : a ≤ b
           · exact ⟨.bool true, h.1 hc, pure_bin ho hx hy fun W => by simp [binOp, Op.intCmp, hc]⟩
           · exact ⟨.bool false, h.2 hc, pure_bin ho hx hy fun W => by simp [binOp, Op.intCmp]; omega⟩)
        | (by_cases hc : b < a
           · exact ⟨.bool true, h.1 hc, pure_bin ho hx hy fun W => by simp [binOp, Op.intCmp, hc]⟩
           · exact ⟨.bool false, h.2 hc, pure_bin ho hx hy fun W => by simp [binOp, Op.intCmp]; omega⟩)
        | (by_cases hc : b ≤ a
           · exact ⟨.bool true, h.1 hc, pure_bin ho hx hy fun W => by simp [binOp, Op.intCmp, hc]⟩
           · exact ⟨.bool false, h.2 hc, pure_bin ho hx hy fun W => by simp [binOp, Op.intCmp]; omega⟩)
  · rename_i a b hx hy
    have hg : ∀ op (W : World), (eqGuard op t x y (.string a) (.string b)).run P W = .ok () W := by intro op W; unfold eqGuard; cases op <;> simp
    have go : ∀ v, (∀ W, (binOp op t (.string a) (.string b)).run P W = .ok v W) → Pure P (ev e) o v := fun v h =>
      pure_value (s := (do eqGuard op t x y (.string a) (.string b); binOp op t (.string a) (.string b))) (by unfold execOp; rw [ho]; simp only [hx, hy]) (fun W => by simp [hg, h, Result.andThen])
    cases op <;> simp only at h
    case eql =>
      by_cases hc : a = b
      · exact .inr ⟨.bool true, h.1 hc, go _ fun W => by simp [binOp, Op.stringOp, hc]⟩
      · exact .inr ⟨.bool false, h.2 hc, go _ fun W => by simp only [binOp, Op.stringOp, str_ne hc]; rfl⟩
    case neq =>
      by_cases hc : a = b
      · exact .inr ⟨.bool false, h.2 (by simpa using hc), go _ fun W => by simp [binOp, Op.stringOp, hc]⟩
      · exact .inr ⟨.bool true, h.1 hc, go _ fun W => by simp only [binOp, Op.stringOp, str_ne hc]; rfl⟩
    case add =>
      obtain ⟨hs, h⟩ := h
      exact .inr ⟨_, h, go _ fun W => by
        simp only [binOp, Op.stringOp]
        rw [if_neg (by simp only [IntKind.max, IntKind.bits]; omega)]; rfl⟩
    all_goals (obtain ⟨v, hp, hk⟩ := PR.h h; exact .inr ⟨v, hk, hp⟩)
  · rename_i a b hx hy
    have hg : ∀ op (W : World), (eqGuard op t x y (.bool a) (.bool b)).run P W = .ok () W := by intro op W; unfold eqGuard; cases op <;> simp
    have go : ∀ v, (∀ W, (binOp op t (.bool a) (.bool b)).run P W = .ok v W) → Pure P (ev e) o v := fun v h =>
      pure_value (s := (do eqGuard op t x y (.bool a) (.bool b); binOp op t (.bool a) (.bool b))) (by unfold execOp; rw [ho]; simp only [hx, hy]) (fun W => by simp [hg, h, Result.andThen])
    split at h
    · rename_i ti hl
      split at h
      · rename_i hd
        have h : KP (.bool (a == b)) := by
          cases hab : (a == b) with
          | true => exact h.1 (by simpa using hab)
          | false => exact h.2 (by simpa using hab)
        exact .inr ⟨_, h, go _ fun W => by
          have hu := (hG.look hl).1
          simp only [hd] at hu
          simp [binOp, Op.equal, Op.maxDepth, run_equalIn_bool' W 9999 t a b hu, Result.andThen]⟩
      · obtain ⟨v, hp, hk⟩ := PR.h h; exact .inr ⟨v, hk, hp⟩
    · rename_i ti hl
      split at h
      · rename_i hd
        have h : KP (.bool (!(a == b))) := by
          cases hab : (a == b) with
          | true => exact h.2 (by simpa using hab)
          | false => exact h.1 (by simpa using hab)
        exact .inr ⟨_, h, go _ fun W => by
          have hu := (hG.look hl).1
          simp only [hd] at hu
          simp [binOp, Op.equal, Op.maxDepth, run_equalIn_bool' W 9999 t a b hu, Result.andThen]⟩
      · obtain ⟨v, hp, hk⟩ := PR.h h; exact .inr ⟨v, hk, hp⟩
    · obtain ⟨v, hp, hk⟩ := PR.h h; exact .inr ⟨v, hk, hp⟩
  · rename_i as bs hx hy
    have go : P.eqGuardType P.depth t = false → ∀ v, (∀ W, (binOp op t (.agg as) (.agg bs)).run P W = .ok v W) → Pure P (ev e) o v := fun hm v h =>
      pure_value (s := (do eqGuard op t x y (.agg as) (.agg bs); binOp op t (.agg as) (.agg bs))) (by unfold execOp; rw [ho]; simp only [hx, hy]) (fun W => by simp [run_eqGuard_agg W op t x y as bs hm, h, Result.andThen])
    have pr : PR P (ev e) o KP → raw ∨ ∃ v, KP v ∧ Pure P (ev e) o v := fun h => by obtain ⟨v, hp, hk⟩ := PR.h h; exact .inr ⟨v, hk, hp⟩
    split at h
    · split at h
      · rename_i ti hl
        split at h
        · rename_i fs hd
          cases hok : (eqOk Γ fs.toList as.toList bs.toList && offsOk fs.toList 0) with
          | false => rw [hok] at h; exact pr h
          | true =>
            rw [hok] at h
            obtain ⟨⟨hp, hm⟩, h⟩ := h
            have hrun := run_eqAgg hG hl hd hok hp
            by_cases hc : as = bs
            · exact .inr ⟨.bool true, h.1 hc, go hm _ fun W => by obtain ⟨b, h3, h4⟩ := hrun W; rw [run_eql_struct, h3, h4.2 hc]; rfl⟩
            · exact .inr ⟨.bool false, h.2 hc, go hm _ fun W => by
                obtain ⟨b, h3, h4⟩ := hrun W
                rw [run_eql_struct, h3, show b = false by cases b; rfl; exact absurd (h4.1 rfl) hc]; rfl⟩
        · exact pr h
      · exact pr h
    · split at h
      · rename_i ti hl
        split at h
        · rename_i fs hd
          cases hok : (eqOk Γ fs.toList as.toList bs.toList && offsOk fs.toList 0) with
          | false => rw [hok] at h; exact pr h
          | true =>
            rw [hok] at h
            obtain ⟨⟨hp, hm⟩, h⟩ := h
            have hrun := run_eqAgg hG hl hd hok hp
            by_cases hc : as = bs
            · exact .inr ⟨.bool false, h.2 (fun hn => hn hc), go hm _ fun W => by obtain ⟨b, h3, h4⟩ := hrun W; rw [run_neq_struct, h3, h4.2 hc]; rfl⟩
            · exact .inr ⟨.bool true, h.1 hc, go hm _ fun W => by
                obtain ⟨b, h3, h4⟩ := hrun W
                rw [run_neq_struct, h3, show b = false by cases b; rfl; exact absurd (h4.1 rfl) hc]; rfl⟩
        · exact pr h
      · exact pr h
    · exact pr h
  · obtain ⟨v, hp, hk⟩ := PR.h h; exact .inr ⟨v, hk, hp⟩

theorem fldL_spec (hG : Agree P Γ) : ∀ {fs : List Field} {i off size ty}, fldL Γ fs i = some (off, size, ty) → ∃ f ti, fs[i]? = some f ∧ f.offset = off ∧ f.type = ty ∧ TIok P (ty, ti) ∧ ti.size = size
  | [], _, _, _, _, h => by simp [fldL] at h
  | f :: r, 0, off, size, ty, h => by
    simp only [fldL] at h
    split at h
    · rename_i ti hl
      simp only [Option.some.injEq, Prod.mk.injEq] at h
      obtain ⟨rfl, rfl, rfl⟩ := h
      exact ⟨f, ti, rfl, rfl, rfl, hG.look hl, rfl⟩
    · cases h
  | f :: r, i + 1, off, size, ty, h => by
    obtain ⟨g, ti, h1, h2⟩ := fldL_spec hG (fs := r) h
    exact ⟨g, ti, by simpa using h1, h2⟩

theorem run_fieldAt (hG : Agree P Γ) {s : TypeId} {i off k ty : Nat} {a : Addr} (h : fld Γ s i = some (off, k + 1, ty)) (w : World) :
    (Instr.fieldAt s (.pointer (some a)) i).run P w = .ok (.pointer (some (a.add off))) w := by
  unfold fld at h
  split at h
  · rename_i ti hl
    split at h
    · rename_i fs hd
      obtain ⟨f, tj, h1, rfl, rfl, h4, h5⟩ := fldL_spec hG h
      have hf : fs[i]? = some f := by simpa using h1
      have hu := (hG.look hl).1
      rw [hd] at hu
      simp [Instr.fieldAt, run_und hu, Result.andThen, hf, Instr.sureAddr, fieldPlace, run_size h4, h5]
    · cases h
  · cases h

theorem run_box (t : TypeId) (v : Value) (w : World) : (Instr.box t v).run P w = .ok (.pointer (some ⟨w.heap.size, 0, none⟩)) (w.alloc (.cells (cellsL v).toArray t)) := by
  simp only [Instr.box, newVar, newRow, newObj, cellsL_eq, Array.toArray_toList]; rfl

theorem run_allocT {t ti} (h : TIok P (t, ti)) (w : World) : (Instr.alloc t true (.tuple #[])).run P w = .ok (.pointer (some ⟨w.heap.size, 0, none⟩)) (w.alloc (.cells (cellsL ti.zero).toArray t)) := by
  simp only [Instr.alloc, newVar, newRow, newObj, cellsL_eq, Array.toArray_toList, Sem.run_bind, run_zero h, Result.andThen]; rfl

theorem lay_eq (cs : List Value) (o : Nat) (vs : List Value) : ∀ k, (vs.zipIdx k).foldl (fun (c : Array Value) (p : Value × Nat) => c.setIfInBounds (o + p.2) p.1) cs.toArray = (lay cs (o + k) vs).toArray := by
  induction vs generalizing cs with
  | nil => intro k; rfl
  | cons v r ih =>
    intro k
    simp only [List.zipIdx_cons, List.foldl_cons, lay]
    have : cs.toArray.setIfInBounds (o + k) v = (cs.set (o + k) v).toArray := by simp
    rw [this, ih, Nat.add_assoc]


theorem fill_fold (cs : List Value) (o : Nat) (v : Value) : v.cells.zipIdx.foldl (fun (c : Array Value) (p : Value × Nat) => c.setIfInBounds (o + p.2) p.1) cs.toArray = (lay cs o (cellsL v)).toArray := by
  rw [cellsL_eq, ← Array.foldl_toList, Array.toList_zipIdx]
  simpa using lay_eq cs o v.cells.toList 0

theorem fillF_spec (hG : Agree P Γ) {fs : List Field} {place : Nat → Option (Nat × Nat)} (hp : ∀ i off size ty, fldL Γ fs i = some (off, size, ty) → place i = some (off, size)) :
    ∀ {parts : List (Nat × Operand)} {cs ds : List Value}, fillF Γ fs e cs parts = some ds → Instr.fill place cs.toArray (parts.map fun p => (p.1, ev e p.2)) = some ds.toArray
  | [], cs, ds, h => by simp only [fillF, Option.some.injEq] at h; subst h; rfl
  | (i, x) :: r, cs, ds, h => by
    simp only [fillF] at h
    split at h
    · rename_i off size ty hf
      cases hb : (Nat.beq (cellsL (ev e x)).length size && Nat.ble (off + size) cs.length) with
      | false => rw [hb] at h; cases h
      | true =>
        rw [hb] at h
        simp only [cond_true] at h
        rw [Bool.and_eq_true] at hb
        have h1 := Nat.eq_of_beq_eq_true hb.1
        have h2 := Nat.le_of_ble_eq_true hb.2
        have hs : (ev e x).cells.size = size := by rw [← h1, cellsL_eq, Array.length_toList]
        simp only [List.map_cons, Instr.fill, hp i off size ty hf]
        rw [if_neg (by simp [hs]; omega), fill_fold]
        exact fillF_spec hG hp h
    · cases h

theorem fillA_spec {size : Nat} : ∀ {parts : List (Nat × Operand)} {cs ds : List Value}, fillA size e cs parts = some ds →
    Instr.fill (fun i => some (i * size, size)) cs.toArray (parts.map fun p => (p.1, ev e p.2)) = some ds.toArray
  | [], cs, ds, h => by simp only [fillA, Option.some.injEq] at h; subst h; rfl
  | (i, x) :: r, cs, ds, h => by
    simp only [fillA] at h
    cases hb : (Nat.beq (cellsL (ev e x)).length size && Nat.ble (i * size + size) cs.length) with
    | false => rw [hb] at h; cases h
    | true =>
      rw [hb] at h
      simp only [cond_true] at h
      rw [Bool.and_eq_true] at hb
      have h1 := Nat.eq_of_beq_eq_true hb.1
      have h2 := Nat.le_of_ble_eq_true hb.2
      have hs : (ev e x).cells.size = size := by rw [← h1, cellsL_eq, Array.length_toList]
      simp only [List.map_cons, Instr.fill]
      rw [if_neg (by simp [hs]; omega), fill_fold]
      exact fillA_spec h


theorem allF_spec (hG : Agree P Γ) : ∀ {fs : List Field}, allF Γ fs = true → ∀ f ∈ fs, ∃ ti, TIok P (f.type, ti) ∧ look Γ f.type = some ti
  | [], _, f, hf => by simp at hf
  | g :: r, h, f, hf => by
    simp only [allF] at h
    split at h
    · rename_i ti hl
      rcases List.mem_cons.1 hf with rfl | hf
      · exact ⟨ti, hG.look hl, hl⟩
      · exact allF_spec hG h f hf
    · cases h

theorem run_mapM {α β : Type} (P : Program) (w : World) (f : α → Sem β) (g : α → β) : ∀ (l : List α), (∀ x ∈ l, (f x).run P w = .ok (g x) w) → (l.mapM f).run P w = .ok (l.map g) w
  | [], _ => by simp [pure, Sem.run]
  | x :: r, h => by
    have hx := h x List.mem_cons_self
    have hr := run_mapM P w f g r (fun y hy => h y (List.mem_cons_of_mem _ hy))
    simp only [List.mapM_cons, Sem.run_bind, hx, hr, Result.andThen, List.map_cons]
    rfl

theorem run_places (hG : Agree P Γ) {fs : Array Field} (h : allF Γ fs.toList = true) (w : World) :
    ∃ pl : Array (Nat × Nat), (fs.mapM fun f => do pure (f.offset, ← sizeOf f.type) : Sem (Array (Nat × Nat))).run P w = .ok pl w ∧
      ∀ i off size ty, fldL Γ fs.toList i = some (off, size, ty) → pl[i]? = some (off, size) := by
  let g : Field → Nat × Nat := fun f => (f.offset, (((look Γ f.type).map (·.size)).getD 0))
  refine ⟨(fs.toList.map g).toArray, ?_, ?_⟩
  · rw [Array.mapM_eq_mapM_toList]
    have : ∀ x ∈ fs.toList, ((do pure (x.offset, ← sizeOf x.type) : Sem (Nat × Nat))).run P w = .ok (g x) w := by
      intro f hf
      obtain ⟨ti, h1, h2⟩ := allF_spec hG h f hf
      simp [run_size h1, Result.andThen, g, h2]
    have hm := run_mapM P w _ g fs.toList this
    show Sem.run P ((List.mapM _ fs.toList) >>= fun l => pure l.toArray) w = _
    rw [Sem.run_bind, hm]
    rfl
  · intro i off size ty hi
    obtain ⟨f, ti, h1, rfl, rfl, h4, rfl⟩ := fldL_spec hG hi
    have hmem : f ∈ fs.toList := List.mem_of_getElem? h1
    obtain ⟨tj, h5, h6⟩ := allF_spec hG h f hmem
    have : tj.size = ti.size := by
      obtain ⟨i1, a1, _, b1, _⟩ := h5.info
      obtain ⟨i2, a2, _, b2, _⟩ := h4.info
      rw [a1] at a2
      cases a2
      rw [← b1, b2]
    simp [h1, g, h6, this]

theorem run_build (hG : Agree P Γ) {t : TypeId} {ti : TI} {fs : Array Field} {parts : Array (Nat × Operand)} {cs : List Value} (hl : look Γ t = some ti) (hd : ti.desc = .struct fs)
    (ha : allF Γ fs.toList = true) (hf : fillF Γ fs.toList e (cellsL ti.zero) parts.toList = some cs) (w : World) :
    (Instr.build t (parts.map fun (i, x) => (i, ev e x))).run P w = .ok (.agg cs.toArray) w := by
  have hT := hG.look hl
  have hu := hT.1
  rw [hd] at hu
  obtain ⟨pl, hpl, hp⟩ := run_places hG ha w
  have hfill := fillF_spec (e := e) hG (place := (pl[·]?)) hp hf
  have hcl : (cellsL ti.zero).toArray = ti.zero.cells := by rw [cellsL_eq]
  rw [hcl] at hfill
  unfold Instr.build
  simp only [Sem.run_bind, run_zero hT, run_und hu, hpl, Result.andThen]
  rw [Array.toList_map]
  rw [show (fun (x : Nat × Operand) => match x with | (i, x) => (i, ev e x)) = (fun p => (p.1, ev e p.2)) from rfl, hfill]
  rfl

theorem rep_len (z : List Value) (n : Nat) : (rep z n).length = n * z.length := by
  induction n with
  | zero => simp [rep]
  | succ n ih => simp [rep, ih, Nat.add_mul, Nat.add_comm]

theorem rep_get (z : List Value) (hz : 0 < z.length) : ∀ n i, i < n * z.length → (rep z n)[i]? = z[i % z.length]? := by
  intro n
  induction n with
  | zero => intro i h; simp at h
  | succ n ih =>
    intro i h
    simp only [rep]
    by_cases hi : i < z.length
    · rw [List.getElem?_append_left hi, Nat.mod_eq_of_lt hi]
    · rw [List.getElem?_append_right (by omega), ih (i - z.length) (by rw [Nat.add_mul] at h; omega)]
      congr 1
      rw [← Nat.mod_eq_sub_mod (by omega)]

theorem rep_eq (z : Array Value) (n : Nat) : (Array.range (n * z.size)).map (z[· % z.size]!) = (rep z.toList n).toArray := by
  apply Array.ext
  · simp [rep_len]
  · intro i h1 h2
    simp at h1
    have hz : 0 < z.size := by
      rcases Nat.eq_zero_or_pos z.size with h | h
      · rw [h] at h1; simp at h1
      · exact h
    have hm := Nat.mod_lt i hz
    have hg := rep_get z.toList (by simpa using hz) n i (by simpa using h1)
    simp only [Array.length_toList] at hg
    rw [List.getElem?_eq_getElem (by simpa [rep_len] using h1)] at hg
    simp only [Array.getElem_map, Array.getElem_range, List.getElem_toArray]
    rw [getElem!_pos z _ hm]
    have : z.toList[i % z.size]? = some z[i % z.size] := by simp [hm]
    rw [this] at hg
    exact (Option.some.inj hg).symm

theorem run_buildSlice (hG : Agree P Γ) {t el : TypeId} {ti tj : TI} {len : Nat} {parts : Array (Nat × Operand)} {cs : List Value} (hl : look Γ t = some ti) (hd : ti.desc = .slice el)
    (hj : look Γ el = some tj)  (hf : fillA tj.size e (rep (cellsL tj.zero) len) parts.toList = some cs) (hle : len * tj.size ≤ 16777216) (w : World) :
    (Instr.buildSlice t len (parts.map fun (i, x) => (i, ev e x))).run P w = .ok (.slice (some ⟨w.heap.size, 0, none⟩) len len) (w.alloc (.cells cs.toArray el)) := by
  have hT := hG.look hl
  have hu := hT.1
  rw [hd] at hu
  have hE := hG.look hj
  have hz := hE.2.2
  have hfill := fillA_spec (e := e) hf
  have hr := rep_eq tj.zero.cells len
  rw [cellsL_eq, ← hr, hz] at hfill
  unfold Instr.buildSlice
  by_cases h0 : len * tj.size = 0
  · have he : (Array.range (len * tj.size)).map ((#[] : Array Value)[· % (#[] : Array Value).size]!) = (Array.range (len * tj.size)).map (tj.zero.cells[· % tj.size]!) := by rw [h0]; simp
    simp only [Sem.run_bind, run_und hu, run_size hE, Result.andThen]
    rw [if_neg (by omega)]
    simp only [Sem.run_bind, Result.andThen, h0, if_true]
    simp only [h0] at he hfill
    simp only [Sem.run_pure]
    rw [he, Array.toList_map]
    rw [show (fun (x : Nat × Operand) => match x with | (i, x) => (i, ev e x)) = (fun p => (p.1, ev e p.2)) from rfl, hfill]
    rfl
  · simp only [Sem.run_bind, run_und hu, run_size hE, Result.andThen]
    rw [if_neg (by omega)]
    simp only [Sem.run_bind, Result.andThen, h0, if_false, run_zero hE, Sem.run_pure]
    rw [hz, Array.toList_map]
    rw [show (fun (x : Nat × Operand) => match x with | (i, x) => (i, ev e x)) = (fun p => (p.1, ev e p.2)) from rfl, hfill]
    rfl


theorem run_indexAt (hG : Agree P Γ) {t el : TypeId} {ti tj : TI} {b off len cap : Nat} {k : IntKind} {j : Int} (hl : look Γ t = some ti) (hd : ti.desc = .slice el) (hj : look Γ el = some tj)
    (hb : 0 ≤ j ∧ j < (len : Int)) (w : World) : (Instr.indexAt t (.slice (some ⟨b, off, none⟩) len cap) (.int k j)).run P w = .ok (.pointer (some ⟨b, off + j.toNat * tj.size, none⟩)) w := by
  have hu := (hG.look hl).1
  rw [hd] at hu
  rw [← add_none]
  simp [Instr.indexAt, asIntOf, run_und hu, Result.andThen, hb, run_size (hG.look hj)]

theorem run_len (hG : Agree P Γ) {t el ty : TypeId} {ti : TI} {a : Option Addr} {m c : Nat} (hl : look Γ t = some ti) (hd : ti.desc = .slice el) (w : World) :
    (Builtin.len_ #[t] ty #[.slice a m c]).run P w = .ok (.int .i64 m) w := by
  have hu := (hG.look hl).1
  rw [hd] at hu
  simp [Builtin.len_, run_und hu, Result.andThen, goInt]

theorem run_lenS (hG : Agree P Γ) {t ty : TypeId} {ti : TI} {s : ByteArray} (hl : look Γ t = some ti) (hd : ti.desc = .string) (w : World) :
    (Builtin.len_ #[t] ty #[.string s]).run P w = .ok (.int .i64 s.size) w := by
  have hu := (hG.look hl).1
  rw [hd] at hu
  simp [Builtin.len_, run_und hu, Result.andThen, goInt]

theorem run_capS (hG : Agree P Γ) {t el ty : TypeId} {ti : TI} {a : Option Addr} {m c : Nat} (hl : look Γ t = some ti) (hd : ti.desc = .slice el) (w : World) :
    (Builtin.cap_ #[t] ty #[.slice a m c]).run P w = .ok (.int .i64 c) w := by
  have hu := (hG.look hl).1
  rw [hd] at hu
  simp [Builtin.cap_, run_und hu, Result.andThen, goInt]

theorem call_does {o : Oper} {c : Go.Call} {f : Operand} {g : FuncId} {first cap : Array Value} (ho : o.op = .call c) (hc : c.callee = .value f) (hf : ev e f = .func (.func g) first cap)
    (h : Au.Call P g (first.toList ++ c.args.toList.map (ev e) ++ cap.toList) w K) : Does P (ev e) o w K := by
  obtain ⟨hca, hC⟩ := h
  refine .inr (.inr (.inl ⟨g, _, ?_, hC⟩))
  unfold callable at hca
  split at hca
  · rename_i fn hfn
    rw [Bool.and_eq_true] at hca
    have h1 : (fn.name == "runtime.NumGoroutine") = false := by simpa using hca.1
    have h2 : fn.body.isNone = false := by
      have := hca.2
      cases hb : fn.body <;> simp_all
    have : execOp (ev e) o = (do let d ← resolve (ev e) c o.type; invoke d.target d.args) := by unfold execOp; rw [ho]
    rw [this]
    have hfn' : ∀ (w : World), (program).run P w = .ok P w := fun w => rfl
    simp only [resolve, hc, hf, Deferred.ofValue, Sem.run_bind, Sem.run_pure, Result.andThen_ok, invoke, callFunc, hfn', hfn, h1, h2]
    simp
  · cases hca


theorem yield_does {o : Oper} {c : Go.Call} {f : Operand} {l : Nat} {first cap : Array Value} (ho : o.op = .call c) (hc : c.callee = .value f) (hf : ev e f = .func (.yield l) first cap)
    (h : Yield P l (first.toList ++ c.args.toList.map (ev e)) w K) : Does P (ev e) o w K := by
  obtain ⟨fn, tmps, assign, body, h1, h2⟩ := h.r
  refine .inr (.inr (.inr ⟨l, fn, tmps, assign, body, ?_, h2⟩))
  have : execOp (ev e) o = (do let d ← resolve (ev e) c o.type; invoke d.target d.args) := by unfold execOp; rw [ho]
  rw [this]
  simp only [resolve, hc, hf, Deferred.ofValue, Sem.run_bind, Sem.run_pure, Result.andThen_ok, invoke]
  have hargs : (first.toList ++ c.args.toList.map (ev e)).toArray = first ++ c.args.map (ev e) := by
    apply Array.toList_inj.1
    simp
  rw [hargs] at h1
  simpa using h1

theorem builtin_pure {o : Oper} {c : Go.Call} {b : Builtin} {x : Operand} {t : TypeId} {v : Value} (ho : o.op = .call c) (hc : c.callee = .builtin b) (hx : c.args.toList = [x]) (ht : c.argTypes.toList = [t])
    (h : ∀ cs W, (builtin b #[t] o.type cs #[ev e x]).run P W = .ok (.value v) W) : Pure P (ev e) o v := by
  have hx' : c.args = #[x] := by rw [← Array.toList_inj, hx]
  have ht' : c.argTypes = #[t] := by rw [← Array.toList_inj, ht]
  intro W
  have : execOp (ev e) o = (do let d ← resolve (ev e) c o.type; invoke d.target d.args) := by unfold execOp; rw [ho]
  rw [this]
  simp only [resolve, hc, hx', ht', Sem.run_bind, Sem.run_pure, Result.andThen_ok, invoke]
  simpa using h _ W

theorem bnd_cases {y : Option Operand} {d i : Int} (hb : bnd e y d = some i) : (y = none ∧ i = d) ∨ ∃ z k, y = some z ∧ ev e z = .int k i := by
  unfold bnd at hb
  cases y with
  | none => simp at hb; exact .inl ⟨rfl, hb.symm⟩
  | some z =>
    simp only at hb
    split at hb
    · rename_i k n hz
      simp at hb
      subst hb
      exact .inr ⟨z, k, rfl, hz⟩
    · cases hb
theorem run_bounds {lo hi : Option Operand} (isS : Bool) {len : Nat} (cap : Nat) {l u : Int} (W : World) (hl : bnd e lo 0 = some l) (hh : bnd e hi (len : Int) = some u) (h0 : 0 ≤ l) (h1 : l ≤ u) (h2 : u ≤ (cap : Int)) :
    (Instr.sliceBounds isS len cap (lo.map (ev e)) (hi.map (ev e)) none).run P W = .ok (l.toNat, u.toNat, cap) W := by
  have hu0 : 0 ≤ u := by omega
  have hun : (u.toNat : Int) = u := Int.toNat_of_nonneg hu0
  unfold Instr.sliceBounds
  rcases bnd_cases hh with ⟨rfl, rfl⟩ | ⟨z, k, rfl, hz⟩
  · rcases bnd_cases hl with ⟨rfl, rfl⟩ | ⟨z2, k2, rfl, hz2⟩
    · simp
    · simp [hz2, Instr.sliceBound, asIntOf, h0, h1]
  · rcases bnd_cases hl with ⟨rfl, rfl⟩ | ⟨z2, k2, rfl, hz2⟩
    · simp [hz, Instr.sliceBound, asIntOf, hu0, h2]
    · simp [hz, hz2, Instr.sliceBound, asIntOf, h0, hu0, h2, hun, h1]
set_option maxHeartbeats 4000000 in
theorem opP_spec (hG : Agree P Γ) {KP : Value → Prop} {raw : Prop} {o : Oper} (h : opP P Γ e o raw KP) : raw ∨ ∃ v, KP v ∧ Pure P (ev e) o v := by
  have pr : PR P (ev e) o KP → raw ∨ ∃ v, KP v ∧ Pure P (ev e) o v := fun h => by obtain ⟨v, hp, hk⟩ := PR.h h; exact .inr ⟨v, hk, hp⟩
  cases ho : o.op
  case binOp => exact opP_bin hG ho h
  all_goals
    unfold opP at h
    rw [ho] at h
    simp only at h
  case move x => exact .inr ⟨_, h, fun W => by unfold execOp; rw [ho]; rfl⟩
  case assign x => exact .inr ⟨_, h, fun W => by unfold execOp; rw [ho]; rfl⟩
  case pick c a b =>
    split at h
    · rename_i hc; exact .inr ⟨_, h, fun W => by unfold execOp; rw [ho]; simp [hc, asBool, Result.andThen]⟩
    · rename_i hc; exact .inr ⟨_, h, fun W => by unfold execOp; rw [ho]; simp [hc, asBool, Result.andThen]⟩
    · exact h.elim
  case extract t i =>
    split at h
    · rename_i vs hv
      split at h
      · rename_i v hn
        rw [nth_eq] at hn
        have hn' : vs[i]? = some v := by simpa using hn
        exact .inr ⟨_, h, pure_value (s := Instr.extract (ev e t) i) (by unfold execOp; rw [ho]) (fun W => by simp [Instr.extract, hv, hn'])⟩
      · exact h.elim
    · exact h.elim
  case unOp op t x =>
    split at h
    · rename_i b hb
      exact .inr ⟨_, h, pure_value (s := Go.Op.unary .not (ev e x)) (by unfold execOp; rw [ho]) (fun W => by simp [Go.Op.unary, hb])⟩
    · rename_i k a hb
      exact .inr ⟨_, h.h _ rfl, pure_value (s := Go.Op.unary .neg (ev e x)) (by unfold execOp; rw [ho]) (fun W => by simp [Go.Op.unary, hb, Op.intArith])⟩
    · first | exact .inl h | exact pr h
  case makeFunc fn first cap =>
    refine .inr ⟨_, h, pure_value (s := Instr.makeFunc fn (first.map (ev e)) (cap.map (ev e))) (by unfold execOp; rw [ho]) fun W => ?_⟩
    have hm : ∀ a : Array Operand, a.map (ev e) = (a.toList.map (ev e)).toArray := fun a => by rw [← Array.toList_map]
    simp only [Instr.makeFunc, hm]; rfl
  case nilCheck x =>
    split at h
    · rename_i a ha
      exact .inr ⟨_, h, fun W => by unfold execOp; rw [ho]; simp [ha]⟩
    · first | exact .inl h | exact pr h
  case fieldAddr s x f =>
    split at h
    · rename_i b off0 off k ty ha hf
      refine .inr ⟨_, h, pure_value (s := Instr.fieldAt s (ev e x) f) (by unfold execOp; rw [ho]) fun W => ?_⟩
      rw [ha, run_fieldAt hG hf, add_none]
    · first | exact .inl h | exact pr h
  case convert src dst x =>
    split at h
    · rename_i tj ti k a hs hd hx
      split at h
      · rename_i k' hk'
        refine .inr ⟨_, h.h _ rfl, pure_value (s := Go.convert src dst (ev e x)) (by unfold execOp; rw [ho]) fun W => ?_⟩
        have h1 := (hG.look hs).1
        have h2 := (hG.look hd).1
        rw [hk'] at h2
        simp [Go.convert, run_und h1, run_und h2, Result.andThen, hx, Conv.intToInt]
      · first | exact .inl h | exact pr h
    · first | exact .inl h | exact pr h
  case build t parts =>
    split at h
    · rename_i ti hl
      split at h
      · rename_i fs hd
        split at h
        · rename_i cs ha hf
          exact .inr ⟨_, h, pure_value (s := Instr.build t (parts.map fun (i, x) => (i, ev e x))) (by unfold execOp; rw [ho]) (fun W => run_build hG hl hd ha hf W)⟩
        · exact h.elim
      · first | exact .inl h | exact pr h
    · exact h.elim
  case indexAddr t x i =>
    split at h
    · rename_i ti b off len cap k j hl hx hi
      split at h
      · rename_i el hd
        split at h
        · rename_i tj hj
          refine .inr ⟨_, h.2, pure_value (s := Instr.indexAt t (ev e x) (ev e i)) (by unfold execOp; rw [ho]) fun W => ?_⟩
          rw [hx, hi]
          exact run_indexAt hG hl hd hj h.1 W
        · exact h.elim
      · first | exact .inl h | exact pr h
    · first | exact .inl h | exact pr h
  case call c =>
    split at h
    · rename_i hc
      split at h
      · rename_i x t hx ht
        split at h
        · rename_i ti a m cp hl hv
          split at h
          · rename_i el hd
            exact .inr ⟨_, h, builtin_pure ho hc hx ht (fun cs W => by simp only [builtin, hv, Sem.run_bind, run_len hG hl hd W]; rfl)⟩
          · first | exact .inl h | exact pr h
        · rename_i ti s hl hv
          split at h
          · rename_i hd
            exact .inr ⟨_, h, builtin_pure ho hc hx ht (fun cs W => by simp only [builtin, hv, Sem.run_bind, run_lenS hG hl hd W]; rfl)⟩
          · first | exact .inl h | exact pr h
        · first | exact .inl h | exact pr h
      · first | exact .inl h | exact pr h
    · rename_i hc
      split at h
      · rename_i x t hx ht
        split at h
        · rename_i ti a m cp hl hv
          split at h
          · rename_i el hd
            exact .inr ⟨_, h, builtin_pure ho hc hx ht (fun cs W => by simp only [builtin, hv, Sem.run_bind, run_capS hG hl hd W]; rfl)⟩
          · first | exact .inl h | exact pr h
        · first | exact .inl h | exact pr h
      · first | exact .inl h | exact pr h
    · first | exact .inl h | exact pr h
  case slice t x lo hi mx =>
    split at h
    · rename_i ti a len cap hl hx
      split at h
      · rename_i el hd
        split at h
        · rename_i tj l u hj hlo hhi
          obtain ⟨⟨h0, h1, h2⟩, h⟩ := h
          have hu := (hG.look hl).1
          simp only [hd] at hu
          have hb := fun W => run_bounds (P := P) true cap W hlo hhi h0 h1 h2
          have hrun : ∀ W, (Instr.sliceAt t (.slice a len cap) (lo.map (ev e)) (hi.map (ev e)) none).run P W = .ok (.slice (if cap = l.toNat then a else a.map (·.add (l.toNat * tj.size))) (u.toNat - l.toNat) (cap - l.toNat)) W := fun W => by
            unfold Instr.sliceAt Instr.slice
            simp [run_und hu, Result.andThen, hb W, run_size (hG.look hj)]
          have hop : ∀ W, (execOp (ev e) o).run P W = .ok (.value (.slice (if cap = l.toNat then a else a.map (·.add (l.toNat * tj.size))) (u.toNat - l.toNat) (cap - l.toNat))) W := fun W => by
            unfold execOp
            rw [ho]
            simp only [hx, Option.map_none, Sem.run_bind, hrun W, Result.andThen_ok, Sem.run_pure]
          cases lo with
          | some y => exact .inr ⟨_, h, hop⟩
          | none =>
            simp only [bnd, Option.some.injEq] at hlo
            subst hlo
            refine .inr ⟨_, h, fun W => (hop W).trans ?_⟩
            simp only [Int.toNat_zero, Nat.zero_mul, Nat.sub_zero]
            congr 4
            split
            · rfl
            · cases a with
              | none => rfl
              | some a => simp [Addr.add]
        · exact pr h
      · exact pr h
    · rename_i ti s hl hx
      split at h
      · rename_i hd
        split at h
        · rename_i l u hlo hhi
          obtain ⟨⟨h0, h1, h2⟩, h⟩ := h
          have hu := (hG.look hl).1
          simp only [hd] at hu
          refine .inr ⟨_, h, fun W => ?_⟩
          have hb := run_bounds (P := P) false s.size W hlo hhi h0 h1 h2
          unfold execOp
          rw [ho]
          simp only [hx, Option.map_none, Instr.sliceAt, Sem.run_bind, run_und hu, Result.andThen_ok, Instr.slice]
          simp [run_und hu, Result.andThen, hb]
        · exact pr h
      · exact pr h
    · exact pr h
  all_goals first | exact .inl h | exact pr h

theorem op1_does (hG : Agree P Γ) {o : Oper} (h : op1 P Γ e o w K) : Does P (ev e) o w K := by
  unfold op1 at h
  split at h
  · rcases opP_spec (P := P) hG h with h | ⟨v, hk, hp⟩
    · exact Raw.does h
    · exact does_v (hp w) hk
  cases ho : o.op
  all_goals
    rw [ho] at h
    try simp only at h
  case load t a =>
    obtain ⟨v, h, hk⟩ := h.h
    exact does_value (s := Instr.loadAt t (ev e a)) (by unfold execOp; rw [ho]) h hk
  case store t a x =>
    obtain ⟨w', h, hk⟩ := h.h
    exact does_unit (s := Instr.storeAt t (ev e a) (ev e x)) (by unfold execOp; rw [ho]) h hk
  case alloc t =>
    split at h
    · rename_i ti hl
      exact does_value (s := Instr.alloc t true (.tuple #[])) (by unfold execOp; rw [ho]) (run_allocT (hG.look hl) w) (h.h _ _ (newB _ _))
    · exact h.elim
  case box t x => exact does_value (s := Instr.box t (ev e x)) (by unfold execOp; rw [ho]) (run_box t _ w) (h.h _ _ (newB _ _))
  case makeMap t r =>
    cases r with
    | none =>
      have h : New w (.map #[] 0) fun b w' => K (.map (some b)) w' := h
      refine does_value (s := Instr.makeMap t none) (by unfold execOp; rw [ho]; rfl) (v := .map (some w.heap.size)) (w' := w.alloc (.map #[] 0)) ?_ (h.h _ _ (newB _ _))
      simp only [Instr.makeMap, newObj]; rfl
    | some r => exact Raw.does h
  case buildSlice t len parts =>
    split at h
    · rename_i ti hl
      split at h
      · rename_i el hd
        split at h
        · rename_i tj hj
          split at h
          · rename_i cs hf
            have hop : execOp (ev e) o = (do let x ← Instr.buildSlice t len (parts.map fun (i, x) => (i, ev e x)); pure (Next.value x)) := by unfold execOp; rw [ho]
            have hrun := run_buildSlice (e := e) hG hl hd hj hf h.1 w
            exact does_value hop hrun (h.2.h _ _ (newB _ _))
          · exact h.elim
        · exact h.elim
      · exact h.elim
    · exact h.elim
  case call c =>
    split at h
    · rename_i f hc
      split at h
      · rename_i g first cap hf
        exact call_does ho hc hf h
      · rename_i l first cap hf
        exact yield_does ho hc hf h
      · exact Raw.does h
    · exact Raw.does h
  case mapUpdate t m k v =>
    obtain ⟨w', h, hk⟩ := h.h
    exact does_unit (s := Instr.mapUpdate t (ev e m) (ev e k) (ev e v)) (by unfold execOp; rw [ho]) h hk
  case entryStore t m s v =>
    obtain ⟨w', h, hk⟩ := h.h
    exact does_unit (s := Instr.entryStore t (ev e m) (ev e s) (ev e v)) (by unfold execOp; rw [ho]) h hk
  case lookup t m k ok =>
    obtain ⟨v, w', h, hk⟩ := h.h
    exact does_value (s := Instr.lookup t (ev e m) (ev e k) ok) (by unfold execOp; rw [ho]) h hk
  case mapEntry t m k =>
    obtain ⟨v, w', h, hk⟩ := h.h
    exact does_value (s := Instr.mapEntry t (ev e m) (ev e k)) (by unfold execOp; rw [ho]) h hk
  all_goals exact Raw.does h

end
end Go.Au
