/- Own text of this workplace: a part of the proofs of this place's statements. -/
import Derived.Test.YtjibhchnhkjgkaaA4
import Derived.Deep.MidRow
import Derived.Deep.OwnRows
import Derived.Laws.AppendOwn
import Derived.Great.BuildSlice
set_option linter.unusedVariables false
set_option linter.unusedSimpArgs false
set_option linter.unusedSectionVars false
namespace Go.Au
open Go Go.RowKit

abbrev pt (b o : Nat) : Value := .pointer (some ⟨b, o, none⟩)
/-- a block whose cells are known, all of them -/
abbrev Own (w : World) (b : Nat) (t : TypeId) (cs : List Value) : Prop := w.heap[b]? = some (.cells cs.toArray t (0, 0))

structure PutB (w : World) (b : Nat) (o : Obj) (w' : World) : Prop where
  here : w'.heap[b]? = some o
  other : ∀ k, k ≠ b → w'.heap[k]? = w.heap[k]?
  size : w'.heap.size = w.heap.size
  os : w'.os = w.os
  tape : w'.tape = w.tape
  output : w'.output = w.output

section
variable {P : Program} {Γ : List (Nat × TI)} {w w' : World} {S : Nat → Prop} {b b' o : Nat} {t : TypeId} {cs xs : List Value} {ob : Obj}

theorem lt_of_heap (h : w.heap[b]? = some ob) : b < w.heap.size := by
  rcases Nat.lt_or_ge b w.heap.size with h' | h'
  · exact h'
  · rw [Array.getElem?_eq_none h'] at h; cases h
theorem Own.lt (h : Own w b t cs) : b < w.heap.size := lt_of_heap h
theorem Chg.heap (h : Chg S w w') (hb : w.heap[b]? = some ob) (hs : ¬ S b) : w'.heap[b]? = some ob := (h.block b (lt_of_heap hb) hs).trans hb
theorem Chg.own (h : Chg S w w') (hb : Own w b t cs) (hs : ¬ S b) : Own w' b t cs := h.heap hb hs
theorem Chg.keep (h : Kp w w') (hb : Own w b t cs) : Own w' b t cs := h.heap hb id
theorem rangeAt_congr (h : w'.heap[b]? = w.heap[b]?) (hr : w.rangeAt b o cs) : w'.rangeAt b o cs := fun j v hv => by
  rw [World.cell?_of_block (a := ⟨b, o + j, none⟩) h]; exact hr j v hv
theorem Chg.range (h : Chg S w w') (hr : w.rangeAt b o cs) (hs : ¬ S b) : w'.rangeAt b o cs := by
  intro j v hv
  have hlt := World.block_lt_of_cell? w _ (hr j v hv)
  rw [World.cell?_of_block (a := ⟨b, o + j, none⟩) (h.block b hlt hs)]
  exact hr j v hv
theorem Own.at_ (h : Own w b t cs) (hx : (cs.drop o).take xs.length = xs) : w.rangeAt b o xs := by
  intro j v hv
  rw [cell_of_row w b (o + j) _ t _ h]
  have hj := (List.getElem?_eq_some_iff.1 hv).1
  rw [← hx, List.getElem?_take, if_pos hj, List.getElem?_drop] at hv
  simpa using hv
theorem rangeAt_sub {i : Nat} (h : w.rangeAt b o cs) (hx : (cs.drop i).take xs.length = xs) : w.rangeAt b (o + i) xs := by
  intro j v hv
  have hj := (List.getElem?_eq_some_iff.1 hv).1
  rw [← hx, List.getElem?_take, if_pos hj, List.getElem?_drop] at hv
  rw [Nat.add_assoc]
  exact h _ _ hv
theorem rangeAt_head {i : Nat} (h : w.rangeAt b o cs) {v : Value} (hx : cs[i]? = some v) : w.rangeAt b (o + i) [v] := by
  intro j u hu
  cases j with
  | zero =>
    simp at hu
    subst hu
    simpa using h _ _ hx
  | succ j => simp at hu

theorem NewB.chg (h : NewB w b ob w') (S : Nat → Prop) : Chg S w w' := by rw [h.eq]; exact Chg.alloc S w ob
theorem NewB.heap (h : NewB w b ob w') : w'.heap[b]? = some ob := by
  rw [h.eq, ← h.base]; show (w.heap.push ob)[w.heap.size]? = some ob; simp
theorem NewB.own {c : List Value} (h : NewB w b (.cells c.toArray t) w') : Own w' b t c := h.heap
theorem NewB.size (h : NewB w b ob w') : w'.heap.size = b + 1 := by rw [h.eq, ← h.base]; show (w.heap.push ob).size = _; simp
theorem NewB.ne (h : NewB w b ob w') {ob' : Obj} (hb : w.heap[b']? = some ob') : b' ≠ b := by
  have := lt_of_heap hb
  have := h.base
  omega

theorem PutB.chg (h : PutB w b ob w') : Chg (fun k => k = b) w w' := ⟨h.os, h.tape, h.output, by rw [h.size]; exact Nat.le_refl _, fun k _ hn => h.other k hn⟩
theorem PutB.own {c : List Value} (h : PutB w b (.cells c.toArray t (0, 0)) w') : Own w' b t c := h.here

/-- a block that was made since is written -/
theorem Chg.new {w0 w1 w2 : World} {S : Nat → Prop} (h : Chg S w0 w1) (hb : w0.heap.size = b) (k : Chg (fun k => k = b) w1 w2) : Chg S w0 w2 :=
  ⟨k.os.trans h.os, k.tape.trans h.tape, k.output.trans h.output, Nat.le_trans h.size k.size, fun i hi hs => (k.block i (Nat.lt_of_lt_of_le hi h.size) (by omega)).trans (h.block i hi hs)⟩
theorem Chg.newS {w0 w1 w2 : World} {S T : Nat → Prop} (h : Chg S w0 w1) (k : Chg T w1 w2) (hT : ∀ i, T i → w0.heap.size ≤ i) : Chg S w0 w2 :=
  ⟨k.os.trans h.os, k.tape.trans h.tape, k.output.trans h.output, Nat.le_trans h.size k.size, fun i hi hs => (k.block i (Nat.lt_of_lt_of_le hi h.size) (fun ht => by have := hT i ht; omega)).trans (h.block i hi hs)⟩

/-! ### loads and stores -/
def asV (Γ : List (Nat × TI)) (t : TypeId) (cs : List Value) : Option Value := match look Γ t with
  | some ti => cond (isAggD ti.desc) (cond (Nat.beq cs.length ti.size) (some (.agg cs.toArray)) none) (match cs with | [v] => some v | _ => none)
  | none => none

theorem run_asV (hG : Agree P Γ) (hr : w.rangeAt b o cs) {v : Value} (hv : asV Γ t cs = some v) : (Instr.loadAt t (pt b o)).run P w = .ok v w := by
  unfold asV at hv
  split at hv
  · rename_i ti hl
    have hok := hG.look hl
    obtain ⟨i, hi, hz, hs, hb⟩ := hok.info
    cases ha : isAggD ti.desc with
    | true =>
      rw [ha] at hv
      simp only [cond_true] at hv
      cases hn : Nat.beq cs.length ti.size with
      | false => rw [hn] at hv; cases hv
      | true =>
        rw [hn] at hv
        simp only [cond_true, Option.some.injEq] at hv
        subst hv
        refine run_loadAt_mid w b o t cs ti.desc hr hok.1 ?_ ?_
        · revert ha; cases ti.desc <;> simp [isAggD, TypeDesc.isRow]
        · rw [hi, Option.map_some, hs, Nat.eq_of_beq_eq_true hn]
    | false =>
      rw [ha] at hv
      simp only [cond_false] at hv
      split at hv
      · rename_i u
        simp only [Option.some.injEq] at hv
        subst hv
        have hagg : (isAgg t).run P w = .ok false w := by
          unfold isAgg
          rw [Sem.run_bind, run_underlying hok.1 w]
          revert ha
          cases ti.desc <;> simp [isAggD]
        have hc := hr 0 u rfl
        simp only [Nat.add_zero] at hc
        simp only [Instr.loadAt, Instr.sureAddr, Sem.run_bind, Sem.run_pure, Result.andThen_ok]
        simp only [loadVar, Sem.run_bind, hagg, Result.andThen_ok]
        simp [run_load, hc]
      · cases hv
  · cases hv

theorem ld (hG : Agree P Γ) {v : Value} {K : Value → Prop} (hr : w.rangeAt b o cs) (hv : asV Γ t cs = some v) (hk : K v) : Ld P t (pt b o) w K := ⟨v, run_asV hG hr hv, hk⟩

theorem lay_length : ∀ (vs cs : List Value) (o : Nat), (lay cs o vs).length = cs.length
  | [], cs, o => rfl
  | v :: r, cs, o => by simp only [lay]; rw [lay_length r]; simp

theorem setCells_own : ∀ (vs : List Value) (cs : List Value) (o : Nat) (w : World), Own w b t cs → PutB w b (.cells (lay cs o vs).toArray t (0, 0)) (w.setCells b o vs)
  | [], cs, o, w, h => ⟨h, fun _ _ => rfl, rfl, rfl, rfl, rfl⟩
  | v :: r, cs, o, w, h => by
    have h1 : Own (w.setCell ⟨b, o, none⟩ v) b t (cs.set o v) := by
      unfold Own at h ⊢
      unfold World.setCell
      simp only [Array.getElem?_modify, if_true, h, Option.map_some]
      simp
    have ih := setCells_own r (cs.set o v) (o + 1) _ h1
    refine ⟨ih.here, fun k hk => (ih.other k hk).trans ?_, ih.size.trans ?_, ih.os, ih.tape, ih.output⟩
    · unfold World.setCell
      simp only [Array.getElem?_modify]
      rw [if_neg (Ne.symm hk)]
    · simp [World.setCell]

def szOf (Γ : List (Nat × TI)) (t : TypeId) : Option Nat := match look Γ t with | some ti => some ti.size | none => none

theorem cellsL_eq' (v : Value) : v.cells.toList = cellsL v := by cases v <;> rfl

theorem st (hG : Agree P Γ) {ty : TypeId} {v : Value} {K : World → Prop} (hO : Own w b t cs) (hs : szOf Γ ty = some (cellsL v).length) (hle : o + (cellsL v).length ≤ cs.length) (h1 : (cellsL v).all (·.oneCell') = true)
    (hk : ∀ w', w'.heap.size = w.heap.size → Chg (fun k => k = b) w w' → w'.heap[b]? = some (.cells (lay cs o (cellsL v)).toArray t (0, 0)) → K w') : St P ty (pt b o) v w K := by
  have hp := setCells_own (cellsL v) _ o _ hO
  refine ⟨w.setCells b o (cellsL v), ?_, hk _ hp.size hp.chg hp.here⟩
  have hth : ∀ j, j < (cellsL v).length → (w.cell? ⟨b, o + 0 + j, none⟩).isSome = true := fun j hj => by
    rw [cell_of_row w b _ _ t _ hO]
    simp
    omega
  have hfr : ∀ j, j < (cellsL v).length → w.frozen? ⟨b, o + 0 + j, none⟩ = false := fun j hj => by
    unfold World.frozen?
    rw [show w.heap[(⟨b, o + 0 + j, none⟩ : Addr).block]? = _ from hO]
    simp
  have := run_storeCells_cells (P := P) b o (cellsL v) 0 w hth hfr (fun u hu => by simpa using List.all_eq_true.1 h1 u hu)
  simp only [Nat.add_zero] at this
  unfold szOf at hs
  split at hs
  · rename_i ti hl
    obtain ⟨i, hi, hz, hsz, hb⟩ := (hG.look hl).info
    simp only [Option.some.injEq] at hs
    have hcs : v.cells.size = i.size := by rw [hsz, hs, ← cellsL_eq']; simp
    simp only [Instr.storeAt, Instr.sureAddr, Sem.run_bind, Sem.run_pure, Result.andThen_ok]
    simp [storeVar, sizeOf, typeInfo, hi, hcs, cellsL_eq', this]
  · cases hs

theorem sp {p : Prop} {K : Bool → Prop} (h1 : p → K true) (h0 : ¬ p → K false) : Split p K := ⟨h1, h0⟩
theorem spT {p : Prop} {K : Bool → Prop} (hp : p) (h : K true) : Split p K := ⟨fun _ => h, fun hn => absurd hp hn⟩
theorem spF {p : Prop} {K : Bool → Prop} (hp : ¬ p) (h : K false) : Split p K := ⟨fun hn => absurd hn hp, fun _ => h⟩
theorem spB {p : Prop} [Decidable p] {K : Bool → Prop} (h : K (decide p)) : Split p K := ⟨fun hp => by rwa [decide_eq_true hp] at h, fun hn => by rwa [decide_eq_false hn] at h⟩
theorem ar {z : Int} {K : Int → Prop} (h : K z) : Ar z K := ⟨fun x hx => hx ▸ h⟩
theorem wrap64 {z : Int} (h1 : -9223372036854775808 ≤ z) (h2 : z ≤ 9223372036854775807) : IntKind.i64.wrap z = z := by
  show (if (true && decide (z % 18446744073709551616 ≥ 9223372036854775808)) = true then z % 18446744073709551616 - 18446744073709551616 else z % 18446744073709551616) = z
  by_cases h : z % 18446744073709551616 ≥ 9223372036854775808
  · rw [if_pos (by simpa using h)]; omega
  · rw [if_neg (by simpa using h)]; omega
theorem aw {z : Int} {K : Int → Prop} (h1 : -9223372036854775808 ≤ z) (h2 : z ≤ 9223372036854775807) (h : K z) : Ar (IntKind.i64.wrap z) K := ⟨fun x hx => by rw [wrap64 h1 h2] at hx; exact hx ▸ h⟩
theorem ne {p K : Prop} (hp : p) (hk : K) : Need p K := ⟨hp, hk⟩
theorem nd {K : Nat → World → Prop} (h : ∀ b w', w.heap.size = b → w'.heap.size = b + 1 → Kp w w' → w'.heap[b]? = some ob → K b w') : New w ob K :=
  ⟨fun b w' hn => h b w' hn.base hn.size (hn.chg _) hn.heap⟩
theorem cl {g : FuncId} {args : List Value} {R K : Value → World → Prop} (hc : callable P g = true) (h : Calls P g args.toArray w (Ret R)) (hk : ∀ v w', R v w' → K v w') : Call P g args w K :=
  ⟨hc, Calls.mono h fun en w' hr => by
    cases en with
    | returned v => exact hk v w' hr
    | _ => exact hr.elim⟩
theorem again {σ : Type} {slots : σ → List (Nat × Value)} {Inv : σ → World → Prop} {m : σ → Nat} {p : σ} {e : Env} {k : Value} (p' : σ) (h1 : Has e (slots p')) (h2 : Inv p' w) (h3 : m p' < m p) (hm : e mark = k := by rfl) : Again slots Inv m p e w k := ⟨⟨p', h1, h2, h3⟩, hm⟩

/-! ### drawn regions -/
theorem mk_val {S : World → World → Prop} {w0 : World} {Dn : World → Prop} {sem : World → (Value → World → Prop) → Prop} {K : Value → DP → Prop} (v : Value) (h : ∀ W, S w0 W → Dn W → sem W (fun v' W' => v' = v ∧ S W W')) (hm : ∀ W {R R' : Value → World → Prop}, sem W R → (∀ v w, R v w → R' v w) → sem W R')
    (hk : ∀ D, K v D) : Mk S w0 Dn sem K :=
  ⟨Unit, ⟨()⟩, fun _ => v, fun _ _ => True, fun _ _ _ _ _ => trivial, fun W h1 h2 => hm W (h W h1 h2) fun v' w' ⟨ha, hb⟩ => ⟨hb, (), ha, trivial⟩, fun _ D _ => hk D⟩

/-- a load in whatever order -/
theorem ldr {S : World → World → Prop} (hS : Pre S) (hG : Agree P Γ) {e : Env} {w0 : World} {Dn : World → Prop} {op : Oper} {x : Operand} {K : Value → DP → Prop} (ho : op.op = .load t x) (hx : ev e x = pt b o) {v : Value} (hr : ∀ W, S w0 W → Dn W → W.rangeAt b o cs) (hv : asV Γ t cs = some v) (hk : ∀ D, K v D) :
    Mk S w0 Dn (op1 P Γ e op) K :=
  ⟨Unit, ⟨()⟩, fun _ => v, fun _ _ => True, fun _ _ _ _ _ => trivial, fun W h1 h2 => by
    unfold op1
    rw [ho]
    simp only [isPure]
    rw [hx]
    exact ld hG (hr W h1 h2) hv ⟨hS.refl _, (), rfl, trivial⟩, fun _ D _ => hk D⟩

/-- a call in whatever order, of which F is told -/
theorem callr {S : World → World → Prop} {e : Env} {w0 : World} {Dn : World → Prop} {op : Oper} {K : Value → DP → Prop} {c : Go.Call} (F : Value → World → Prop) (ho : op.op = .call c) {f : Operand} {g : FuncId} {first cap : Array Value} (hc : c.callee = .value f) (hf : ev e f = .func (.func g) first cap)
    (hst : ∀ v W W', F v W → S W W' → F v W') (hcall : callable P g = true) (h : ∀ W, S w0 W → Dn W → Calls P g (first.toList ++ c.args.toList.map (ev e) ++ cap.toList).toArray W (Ret fun v W' => S W W' ∧ F v W'))
    (hk : ∀ v D, (∀ W, D W → F v W) → K v D) : Mk S w0 Dn (op1 P Γ e op) K :=
  ⟨Value, ⟨undef⟩, id, F, fun y W W' => hst y W W', fun W h1 h2 => by
    unfold op1
    rw [ho]
    simp only [isPure, hc, hf]
    exact ⟨hcall, Calls.mono (h W h1 h2) fun en w' hr => by
      cases en with
      | returned v => exact ⟨hr.1, v, rfl, hr.2⟩
      | _ => exact hr.elim⟩, fun v D hD => hk v D hD⟩

/-- a call in whatever order whose answer is known -/
theorem callx {S : World → World → Prop} (hS : Pre S) {e : Env} {w0 : World} {Dn : World → Prop} {op : Oper} {K : Value → DP → Prop} {c : Go.Call} {v : Value} (ho : op.op = .call c) {f : Operand} {g : FuncId} {first cap : Array Value} (hc : c.callee = .value f) (hf : ev e f = .func (.func g) first cap)
    (hcall : callable P g = true) (h : ∀ W, S w0 W → Dn W → Calls P g (first.toList ++ c.args.toList.map (ev e) ++ cap.toList).toArray W (Ret fun r W' => r = v ∧ Kp W W'))
    (hk : ∀ D, K v D) : Mk S w0 Dn (op1 P Γ e op) K :=
  ⟨Unit, ⟨()⟩, fun _ => v, fun _ _ => True, fun _ _ _ _ _ => trivial, fun W h1 h2 => by
    unfold op1
    rw [ho]
    simp only [isPure, hc, hf]
    exact ⟨hcall, Calls.mono (h W h1 h2) fun en w' hr => by
      cases en with
      | returned v => exact ⟨hS.kp hr.2, (), hr.1, trivial⟩
      | _ => exact hr.elim⟩, fun _ D _ => hk D⟩

/-- a slice that is written out, in whatever order -/
theorem bsr {S : World → World → Prop} (hS : Pre S) {e : Env} {w0 : World} {Dn : World → Prop} {op : Oper} {K : Value → DP → Prop} {t el : TypeId} {len : Nat} {parts : Array (Nat × Operand)} {ti tj : TI} {cs : List Value} (ho : op.op = .buildSlice t len parts) (hl : look Γ t = some ti) (hd : ti.desc = .slice el) (hj : look Γ el = some tj)
    (hf : fillA tj.size e (rep (cellsL tj.zero) len) parts.toList = some cs) (hn : len * tj.size ≤ 16777216) (hst : ∀ b o W W', w0.heap.size ≤ b → W.heap[b]? = some o → S W W' → W'.heap[b]? = some o) (hsz : ∀ W, S w0 W → w0.heap.size ≤ W.heap.size)
    (hk : ∀ b D, (∀ W, D W → W.heap[b]? = some (.cells cs.toArray el (0, 0)) ∧ w0.heap.size ≤ b) → K (.slice (some ⟨b, 0, none⟩) len len) D) : Mk S w0 Dn (op1 P Γ e op) K :=
  ⟨Nat, ⟨0⟩, fun b => .slice (some ⟨b, 0, none⟩) len len, fun b W => W.heap[b]? = some (.cells cs.toArray el (0, 0)) ∧ w0.heap.size ≤ b, fun b W W' h hc => ⟨hst _ _ _ _ h.2 h.1 hc, h.2⟩, fun W h1 h2 => by
    unfold op1
    rw [ho]
    simp only [isPure, hl, hd, hj, hf]
    exact ⟨hn, nd fun b W' e1 e2 k m => ⟨hS.kp k, b, rfl, m, by rw [← e1]; exact hsz W h1⟩⟩, fun b D hD => hk b D hD⟩

/-- the same where nothing old turns -/
theorem ldk (hG : Agree P Γ) {e : Env} {w0 : World} {Dn : World → Prop} {op : Oper} {x : Operand} {K : Value → DP → Prop} (ho : op.op = .load t x) (hx : ev e x = pt b o) {v : Value} (hr : ∀ W, Kp w0 W → Dn W → W.rangeAt b o cs) (hv : asV Γ t cs = some v) (hk : ∀ D, K v D) :
    Mk Kp w0 Dn (op1 P Γ e op) K := ldr (preChg _) hG ho hx hr hv hk
theorem callk {e : Env} {w0 : World} {Dn : World → Prop} {op : Oper} {K : Value → DP → Prop} {c : Go.Call} {v : Value} (ho : op.op = .call c) {f : Operand} {g : FuncId} {first cap : Array Value} (hc : c.callee = .value f) (hf : ev e f = .func (.func g) first cap)
    (hcall : callable P g = true) (h : ∀ W, Kp w0 W → Dn W → Calls P g (first.toList ++ c.args.toList.map (ev e) ++ cap.toList).toArray W (Ret fun r W' => r = v ∧ Kp W W'))
    (hk : ∀ D, K v D) : Mk Kp w0 Dn (op1 P Γ e op) K := callx (preChg _) ho hc hf hcall h hk
theorem bsk {e : Env} {w0 : World} {Dn : World → Prop} {op : Oper} {K : Value → DP → Prop} {t el : TypeId} {len : Nat} {parts : Array (Nat × Operand)} {ti tj : TI} {cs : List Value} (ho : op.op = .buildSlice t len parts) (hl : look Γ t = some ti) (hd : ti.desc = .slice el) (hj : look Γ el = some tj)
    (hf : fillA tj.size e (rep (cellsL tj.zero) len) parts.toList = some cs) (hn : len * tj.size ≤ 16777216)
    (hk : ∀ b D, (∀ W, D W → W.heap[b]? = some (.cells cs.toArray el (0, 0)) ∧ w0.heap.size ≤ b) → K (.slice (some ⟨b, 0, none⟩) len len) D) : Mk Kp w0 Dn (op1 P Γ e op) K :=
  bsr (preChg _) ho hl hd hj hf hn (fun _ _ _ _ _ h k => k.heap h id) (fun _ k => k.size) hk

/-! ### rows -/
/-- a slice that holds these: where it lies, lo ≤ .. < hi -/
def RowE {α : Type} (E : World → List Value → α → Prop) (size lo hi : Nat) (w : World) (v : Value) (xs : List α) : Prop :=
  ∃ a cap, v = .slice a xs.length cap ∧ xs.length ≤ cap ∧ ∀ i x, xs[i]? = some x → ∃ b o, a = some ⟨b, o, none⟩ ∧ lo ≤ b ∧ b < hi ∧ ∃ cs, cs.length = size ∧ w.rangeAt b (o + i * size) cs ∧ E w cs x

theorem RowE.mono {α : Type} {E E' : World → List Value → α → Prop} {size lo hi lo' hi' : Nat} {v : Value} {xs : List α} (h : RowE E size lo hi w v xs) (hE : ∀ cs x, E w cs x → E' w cs x) (h1 : lo' ≤ lo) (h2 : hi ≤ hi') : RowE E' size lo' hi' w v xs := by
  obtain ⟨a, cap, hv, hc, h⟩ := h
  refine ⟨a, cap, hv, hc, fun i x hx => ?_⟩
  obtain ⟨b, o, ha, hlo, hhi, cs, hl, hr, he⟩ := h i x hx
  exact ⟨b, o, ha, by omega, by omega, cs, hl, hr, hE _ _ he⟩

theorem RowE.chg {α : Type} {E : World → List Value → α → Prop} {size lo hi : Nat} {v : Value} {xs : List α} (h : RowE E size lo hi w v xs) (hc : Chg S w w') (hs : ∀ k, lo ≤ k → k < hi → ¬ S k) (hE : ∀ cs x, E w cs x → E w' cs x) : RowE E size lo hi w' v xs := by
  obtain ⟨a, cap, hv, hcap, h⟩ := h
  refine ⟨a, cap, hv, hcap, fun i x hx => ?_⟩
  obtain ⟨b, o, ha, hlo, hhi, cs, hl, hr, he⟩ := h i x hx
  exact ⟨b, o, ha, hlo, hhi, cs, hl, hc.range hr (hs b hlo hhi), hE _ _ he⟩

end
end Go.Au
