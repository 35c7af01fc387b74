/- Own text of this workplace: a part of the proofs of this place's statements. -/
import Derived.Test.YtjibhchnhkjgkaaA10
set_option linter.unusedVariables false
set_option linter.unusedSimpArgs false
set_option linter.unusedSectionVars false
namespace Go.Au
open Go Go.RowKit Go.MapKept
open Go.Maps (Keyed)

section
variable {α β : Type} [DecidableEq α]
theorem alook_none_filter {l : List (α × β)} {x : α} (h : alook l x = none) : l.filter (fun p => decide (p.1 ≠ x)) = l := by
  induction l with
  | nil => rfl
  | cons p r ih =>
    obtain ⟨a, b⟩ := p
    simp only [alook] at h
    by_cases ha : a = x
    · rw [if_pos ha] at h; cases h
    · rw [if_neg ha] at h
      rw [List.filter_cons_of_pos (by simpa using ha), ih h]
theorem filter_new {l : List (α × β)} {x : α} (h : x ∉ l.map (·.1)) : l.filter (fun p => decide (p.1 ≠ x)) = l := by
  rw [List.filter_eq_self]
  intro p hp
  simp only [decide_eq_true_eq]
  intro he
  exact h (List.mem_map.2 ⟨p, hp, he⟩)
theorem perm_look {l : List (α × β)} {x : α} {v : β} (hn : (l.map (·.1)).Nodup) (h : alook l x = some v) : l.Perm ((x, v) :: l.filter (fun p => decide (p.1 ≠ x))) := by
  induction l with
  | nil => simp [alook] at h
  | cons p r ih =>
    obtain ⟨a, b⟩ := p
    simp only [List.map_cons, List.nodup_cons] at hn
    simp only [alook] at h
    by_cases ha : a = x
    · subst ha
      rw [if_pos rfl] at h
      simp only [Option.some.injEq] at h
      subst h
      rw [List.filter_cons_of_neg (by simp), filter_new hn.1]
    · rw [if_neg ha] at h
      rw [List.filter_cons_of_pos (by simpa using ha)]
      exact ((ih hn.2 h).cons _).trans (List.Perm.swap _ _ _)
theorem perm_aput {l : List (α × β)} {x : α} {v : β} (hn : (l.map (·.1)).Nodup) : (aput l x v).Perm ((x, v) :: l.filter (fun p => decide (p.1 ≠ x))) := by
  induction l with
  | nil => simp [aput]
  | cons p r ih =>
    obtain ⟨a, b⟩ := p
    simp only [List.map_cons, List.nodup_cons] at hn
    simp only [aput]
    by_cases ha : a = x
    · subst ha
      rw [if_pos rfl, List.filter_cons_of_neg (by simp), filter_new hn.1]
    · rw [if_neg ha, List.filter_cons_of_pos (by simpa using ha)]
      exact ((ih hn.2).cons _).trans (List.Perm.swap _ _ _)
theorem alook_some_mem {l : List (α × β)} {x : α} {v : β} (h : alook l x = some v) : (x, v) ∈ l := by
  induction l with
  | nil => simp [alook] at h
  | cons p r ih =>
    obtain ⟨a, b⟩ := p
    simp only [alook] at h
    by_cases ha : a = x
    · subst ha
      rw [if_pos rfl] at h
      simp only [Option.some.injEq] at h
      subst h
      exact List.mem_cons_self
    · rw [if_neg ha] at h
      exact List.mem_cons_of_mem _ (ih h)

variable {w w' : World} {base size : Nat} {el : TypeId} {S : Nat → Prop}
abbrev nilS : Value := .slice none 0 0

/-- rows that are a map's values: one of them is written -/
theorem Bag.aput {pre : List (Value × List Value)} {nl : List (α × Value)} {F : α → List Value} {x : α} {v' : Value} {n' : Nat} {xs' : List Value} (hn : (nl.map (·.1)).Nodup) (h : Bag w base el size (pre ++ nl.map fun p => (p.2, F p.1)))
    (hc : Chg S w w') (hS : ∀ b, S b → some b = (aget nl nilS x).ownBlock ∨ ∀ y ∈ pre ++ nl.map (fun p => (p.2, F p.1)), y.1.ownBlock ≠ some b) (hv : w'.ownsRow base el size v' n' xs')
    (hnew : ∀ g, v'.ownBlock = some g → (aget nl nilS x).ownBlock = some g ∨ w.heap.size ≤ g) :
    Bag w' base el size (pre ++ (Au.aput nl x v').map fun p => (p.2, if p.1 = x then xs' else F p.1)) := by
  have hrest : ((x, v') :: nl.filter (fun p => decide (p.1 ≠ x))).map (fun p => (p.2, if p.1 = x then xs' else F p.1)) = (v', xs') :: (nl.filter (fun p => decide (p.1 ≠ x))).map fun p => (p.2, F p.1) := by
    rw [List.map_cons]
    simp only [if_true]
    congr 1
    refine List.map_congr_left fun p hp => ?_
    have := (List.mem_filter.1 hp).2
    simp only [decide_eq_true_eq] at this
    rw [if_neg this]
  have hp1 : (pre ++ (Au.aput nl x v').map fun p => (p.2, if p.1 = x then xs' else F p.1)).Perm ((v', xs') :: (pre ++ (nl.filter (fun p => decide (p.1 ≠ x))).map fun p => (p.2, F p.1))) := by
    have := (perm_aput (v := v') hn (x := x)).map (fun p : α × Value => (p.2, if p.1 = x then xs' else F p.1))
    rw [hrest] at this
    exact (this.append_left pre).trans List.perm_middle
  refine Bag.perm ?_ hp1.symm
  cases hl : alook nl x with
  | some v =>
    have hp2 : (pre ++ nl.map fun p => (p.2, F p.1)).Perm ((v, F x) :: (pre ++ (nl.filter (fun p => decide (p.1 ≠ x))).map fun p => (p.2, F p.1))) :=
      (((perm_look hn hl).map (fun p : α × Value => (p.2, F p.1))).append_left pre).trans List.perm_middle
    have ha : aget nl nilS x = v := by simp [aget, hl]
    rw [ha] at hS hnew
    refine (h.perm hp2).head hc (fun b hb => ?_) hv hnew
    exact (hS b hb).imp id fun h y hy => h y (hp2.mem_iff.2 (List.mem_cons_of_mem _ hy))
  | none =>
    have ha : aget nl nilS x = nilS := by simp [aget, hl]
    rw [ha] at hS hnew
    rw [alook_none_filter hl]
    exact h.consNil.head hc hS hv hnew

theorem perm_at {γ : Type} : ∀ {L : List γ} {i : Nat} {a : γ}, L[i]? = some a → L.Perm (a :: L.eraseIdx i)
  | [], _, _, h => by simp at h
  | x :: r, 0, a, h => by simp at h; subst h; exact .refl _
  | x :: r, i + 1, a, h => by
    simp only [List.getElem?_cons_succ] at h
    simp only [List.eraseIdx_cons_succ]
    exact ((perm_at h).cons _).trans (List.Perm.swap _ _ _)
theorem perm_set {γ : Type} : ∀ {L : List γ} {i : Nat} {a b : γ}, L[i]? = some a → (L.set i b).Perm (b :: L.eraseIdx i)
  | [], _, _, _, h => by simp at h
  | x :: r, 0, a, b, h => by simp
  | x :: r, i + 1, a, b, h => by
    simp only [List.getElem?_cons_succ] at h
    simp only [List.eraseIdx_cons_succ, List.set_cons_succ]
    exact ((perm_set h).cons _).trans (List.Perm.swap _ _ _)
/-- rows in a row: one of them is written -/
theorem Bag.set {L : List (Value × List Value)} {i : Nat} {v v' : Value} {xs xs' : List Value} {n' : Nat} (h : Bag w base el size L) (hi : L[i]? = some (v, xs)) (hc : Chg S w w') (hS : ∀ b, S b → some b = v.ownBlock ∨ ∀ y ∈ L, y.1.ownBlock ≠ some b)
    (hv : w'.ownsRow base el size v' n' xs') (hnew : ∀ g, v'.ownBlock = some g → v.ownBlock = some g ∨ w.heap.size ≤ g) : Bag w' base el size (L.set i (v', xs')) := by
  have hp := perm_at hi
  refine Bag.perm ?_ (perm_set hi).symm
  exact (h.perm hp).head hc (fun b hb => (hS b hb).imp id fun h y hy => h y (hp.mem_iff.2 (List.mem_cons_of_mem _ hy))) hv hnew
end

section
theorem nodup_sub {α : Type} [DecidableEq α] : ∀ {l r : List α}, l.Nodup → (∀ x ∈ l, x ∈ r) → l.length ≤ r.length
  | [], r, _, _ => Nat.zero_le _
  | a :: l, r, hn, hs => by
    have ha := hs a List.mem_cons_self
    have hn := List.nodup_cons.1 hn
    have := nodup_sub (l := l) (r := r.erase a) hn.2 fun x hx => (List.mem_erase_of_ne fun he => hn.1 (by rw [← he]; exact hx)).2 (hs x (List.mem_cons_of_mem _ hx))
    rw [List.length_erase_of_mem ha] at this
    have := List.length_pos_of_mem ha
    simp only [List.length_cons]
    omega
theorem nodup_box {l : List (Int × Int)} {a b : Nat} (hn : l.Nodup) (h : ∀ p ∈ l, 0 ≤ p.1 ∧ p.1 < a ∧ 0 ≤ p.2 ∧ p.2 < b) : l.length ≤ a * b := by
  have hr : ((List.range a).flatMap fun (i : Nat) => (List.range b).map fun (j : Nat) => ((i : Int), (j : Int))).length = a * b := by
    rw [List.length_flatMap]
    simp
    clear h
    induction a with
    | zero => simp
    | succ a ih => rw [List.range_succ, List.map_append, List.sum_append, ih, Nat.add_mul]; simp
  rw [← hr]
  refine nodup_sub hn fun p hp => ?_
  obtain ⟨h1, h2, h3, h4⟩ := h p hp
  simp only [List.mem_flatMap, List.mem_range, List.mem_map]
  exact ⟨p.1.toNat, by omega, p.2.toNat, by omega, by ext <;> simp <;> omega⟩

theorem Own.one {w : World} {b o i : Nat} {t : TypeId} {cs : List Value} {v : Value} (h : Own w b t cs) (hv : cs[i]? = some v) (ho : o = i) : w.rangeAt b o [v] := by
  subst ho
  refine Own.at_ h ?_
  obtain ⟨hlt, he⟩ := List.getElem?_eq_some_iff.1 hv
  rw [List.drop_eq_getElem_cons hlt, he]
  rfl
variable {P : Program} {Γ : List (Nat × TI)} {w : World} {base : Nat} {t el : TypeId} {ti tj : TI}
/-- a new row -/
theorem ms (hG : Agree P Γ) {ρ : Operand → Value} {op : Oper} {l c : Operand} {kl kc : IntKind} {x y : Int} {K : Value → World → Prop} (ho : op.op = .makeSlice t l c) (hl : ρ l = .int kl x) (hc : ρ c = .int kc y) (ht : look Γ t = some ti) (hd : ti.desc = .slice el) (hj : look Γ el = some tj)
    (h0 : 0 ≤ x) (hxy : x ≤ y) (hb : (tj.bytes : Int) * y ≤ 281474976710656) (h63 : y ≤ 9223372036854775807)
    (hk : ∀ b w', w.heap.size = b → w'.heap.size = b + 1 → Kp w w' → w'.heap[b]? = some (.cells (rep (cellsL tj.zero) y.toNat).toArray el (0, 0)) → K (.slice (some ⟨b, 0, none⟩) x.toNat y.toNat) w') : Raw P ρ op w K := by
  have hu := (hG.look ht).1
  simp only [hd] at hu
  have hE := hG.look hj
  obtain ⟨i, hi, hz, hs, hbt⟩ := hE.info
  have hr := run_make (P := P) w t el i tj.zero hu hi hz kl kc x y h0 hxy (by rw [hbt]; exact hb) h63
  have hcz : madeCells tj.zero.cells (y.toNat * i.size) = (rep (cellsL tj.zero) y.toNat).toArray := by
    have hz2 := hE.2.2
    unfold madeCells
    rw [hs, ← hz2, cellsL_eq]
    exact rep_eq _ _
  rw [hcz] at hr
  refine ⟨_, _, ?_, hk w.heap.size _ rfl (by simp) (Chg.alloc _ _ _) (heap_alloc_new w _)⟩
  unfold execOp
  simp only [ho, hl, hc, Sem.run_bind, hr, Result.andThen_ok, Sem.run_pure]
/-- a new block in whatever order -/
theorem alr {S : World → World → Prop} (hS : Pre S) {e : Env} {w0 : World} {Dn : World → Prop} {op : Oper} {K : Value → DP → Prop} (ho : op.op = .alloc t) (hl : look Γ t = some ti) (hst : ∀ b o W W', w0.heap.size ≤ b → W.heap[b]? = some o → S W W' → W'.heap[b]? = some o) (hsz : ∀ W, S w0 W → w0.heap.size ≤ W.heap.size)
    (hk : ∀ b D, (∀ W, D W → Own W b t (cellsL ti.zero) ∧ w0.heap.size ≤ b) → K (.pointer (some ⟨b, 0, none⟩)) D) : Mk S w0 Dn (op1 P Γ e op) K :=
  ⟨Nat, ⟨0⟩, fun b => .pointer (some ⟨b, 0, none⟩), fun b W => Own W b t (cellsL ti.zero) ∧ w0.heap.size ≤ b, fun b W W' h hc => ⟨hst _ _ _ _ h.2 h.1 hc, h.2⟩, fun W h1 h2 => by
    unfold op1
    rw [ho]
    simp only [isPure, hl]
    exact nd fun b W' e1 e2 k m => ⟨hS.kp k, b, rfl, m, by rw [← e1]; exact hsz W h1⟩, fun b D hD => hk b D hD⟩
theorem alk {e : Env} {w0 : World} {Dn : World → Prop} {op : Oper} {K : Value → DP → Prop} (ho : op.op = .alloc t) (hl : look Γ t = some ti)
    (hk : ∀ b D, (∀ W, D W → Own W b t (cellsL ti.zero) ∧ w0.heap.size ≤ b) → K (.pointer (some ⟨b, 0, none⟩)) D) : Mk Kp w0 Dn (op1 P Γ e op) K :=
  alr (preChg _) ho hl (fun _ _ _ _ _ h k => k.heap h id) (fun _ k => k.size) hk
theorem own_row {α : Type} {size g : Nat} {f : α → List Value} {l : List α} (hf : ∀ x, (f x).length = size) (hpos : 0 < size) (h : Own w g el (l.flatMap f)) (hl : l.length ≤ maxLen) : RowE (fun _ cs x => cs = f x) size 0 w.heap.size w (.slice (some ⟨g, 0, none⟩) l.length l.length) l :=
  ownsRow_row (base := 0) (el := el) hf ⟨flat_len hf l, .inr ⟨g, l.length, (l.flatMap f).toArray, rfl, Nat.zero_le _, h, Nat.le_refl _, hl, by simpa using flat_len hf l, by rw [List.take_of_length_le (by simpa using Nat.le_of_eq (flat_len hf l))]⟩⟩ hpos
theorem ownsRow_own1 {g size : Nat} {xs : List Value} (h : w.ownsRow base el size (.slice (some ⟨g, 0, none⟩) 1 1) 1 xs) : Own w g el xs := by
  rcases h.2 with ⟨h, _⟩ | ⟨g', cap, cur, h, _, a3, _, _, a5, a6⟩
  · cases h
  · injection h with h1 h2 h3
    injection h1 with h1
    injection h1 with h1
    subst h1 h3
    have : cur = xs.toArray := by
      rw [← a6, List.take_of_length_le (by simp [a5])]
    rw [this] at a3
    exact a3
theorem own1_ownsRow {g size : Nat} {xs : List Value} (h : Own w g el xs) (hx : xs.length = size) (hb : base ≤ g) : w.ownsRow base el size (.slice (some ⟨g, 0, none⟩) 1 1) 1 xs :=
  ⟨by simp [hx], .inr ⟨g, 1, xs.toArray, rfl, hb, h, Nat.le_refl _, by simp [maxLen], by simp [hx], by rw [List.take_of_length_le (by simp [hx])]⟩⟩
end

section
variable {α β : Type} {P : Program} {Γ : List (Nat × TI)} {k : TypeId} {ek : α → Value} {ev' : β → Value} {w : World} {m : Nat} {xs : List (α × β)} {t el : TypeId} {ti : TI}
/-- how many entries a map has -/
theorem lm (hG : Agree P Γ) {ρ : Operand → Value} {op : Oper} {x : Operand} {K : Value → World → Prop} (ho : op.op = .call { callee := .builtin .len, args := #[x], argTypes := #[t] }) (hx : ρ x = .map (some m)) (ht : look Γ t = some ti) (hd : ti.desc = .map k el) (h : MapE P k ek ev' w m xs)
    (hk : K (.int .i64 xs.length) w) : Raw P ρ op w K := by
  have hu := (hG.look ht).1
  simp only [hd] at hu
  obtain ⟨es, clock, hb, hm, -⟩ := h.h
  have hl := congrArg List.length hm
  simp only [List.length_map, Array.length_toList] at hl
  refine ⟨_, _, ?_, hk⟩
  unfold execOp
  simp [ho, resolve, invoke, builtin, hx, Builtin.len_, run_underlying hu, MapKept.run_getObj_map hb, Result.andThen, goInt, hl]
end

/-- a call in whatever order, whose answer is one of some -/
theorem callf {P : Program} {Γ : List (Nat × TI)} {S : World → World → Prop} {e : Env} {w0 : World} {Dn : World → Prop} {op : Oper} {K : Value → DP → Prop} {c : Go.Call} {τ : Type} [hne : Nonempty τ] (f : τ → Value) (F : τ → World → Prop) (ho : op.op = .call c) {fo : Operand} {g : FuncId} {first cap : Array Value} (hc : c.callee = .value fo) (hf : ev e fo = .func (.func g) first cap)
    (hst : ∀ y W W', F y W → S W W' → F y W') (hcall : callable P g = true) (h : ∀ W, S w0 W → Dn W → Calls P g (first.toList ++ c.args.toList.map (ev e) ++ cap.toList).toArray W (Ret fun v W' => S W W' ∧ ∃ y, v = f y ∧ F y W'))
    (hk : ∀ y D, (∀ W, D W → F y W) → K (f y) D) : Mk S w0 Dn (op1 P Γ e op) K :=
  ⟨τ, hne, f, F, hst, fun W h1 h2 => by
    unfold op1
    rw [ho]
    simp only [isPure, hc, hf]
    exact ⟨hcall, Calls.mono (h W h1 h2) fun en w' hr => by
      cases en with
      | returned v => exact hr
      | _ => exact hr.elim⟩, fun y D hD => hk y D hD⟩

theorem Chg.below {w w' : World} (h : Kp w w') : Below w.heap.size w w' := ⟨h.os, h.tape, h.output, h.size, fun k hk => h.block k hk id⟩
theorem row_of {w w' : World} {e : Ending} (h : Ret (fun v w' => v = .bool true ∧ Kp w w') e w') : Below w.heap.size w w' ∧ e = .returned (.bool true) := by
  cases e with
  | returned v => obtain ⟨rfl, k⟩ := h; exact ⟨k.below, rfl⟩
  | _ => exact h.elim

/-! ### an order of one's own -/
def nthO : List Oper → Nat → Option Oper
  | [], _ => none
  | o :: _, 0 => some o
  | _ :: r, n + 1 => nthO r n
theorem nthO_eq : ∀ (l : List Oper) (i : Nat), nthO l i = l[i]?
  | [], i => by simp [nthO]
  | o :: r, 0 => by simp [nthO]
  | o :: r, i + 1 => by simp [nthO, nthO_eq r i]
noncomputable def VCo (P : Program) (Γ : List (Nat × TI)) (S : World → World → Prop) (w0 : World) (ops : List Oper) (ms : List Nat) (Q : Env → List (Nat × DP) → Prop) (l : List Nat) : List (Nat × DP) → Env → Prop :=
  List.rec (motive := fun _ => List (Nat × DP) → Env → Prop) (fun Ds e => Q e Ds)
    (fun i _ ih Ds e => match nthO ops i with
      | some o => grd ops e o (opr P Γ S w0 (DnF ((ms[i]?).getD 0) Ds) e o fun v D => ih (addD Ds i D) (putE e o.dst v)) (ih Ds (putE e o.dst undef))
      | none => False) l
section
variable {P : Program} {Γ : List (Nat × TI)} {n : Nat} {ds : List Deferred} {rd : Option Nat}
theorem VCo_to (hG : Agree P Γ) {S : World → World → Prop} {w0 : World} {ops : List Oper} {ms : List Nat} {Q : Env → List (Nat × DP) → Prop} : ∀ (l : List Nat) (Ds : List (Nat × DP)) (e : Env), VCo P Γ S w0 ops ms Q l Ds e → VCs P Γ S (fun _ => True) 0 w0 ops ms Q ((nodes ops l).map fun p => (p.1, p.2, none)) Ds e
  | [], Ds, e, h => h
  | i :: r, Ds, e, h => by
    change (match nthO ops i with
      | some o => grd ops e o (opr P Γ S w0 (DnF ((ms[i]?).getD 0) Ds) e o fun v D => VCo P Γ S w0 ops ms Q r (addD Ds i D) (putE e o.dst v)) (VCo P Γ S w0 ops ms Q r Ds (putE e o.dst undef))
      | none => False) at h
    simp only [nodes, List.map_cons, VCs]
    split at h
    · rename_i o ho
      rw [nthO_eq] at ho
      rw [ho, Option.getD_some]
      refine grd_mono h ?_ (fun h => VCo_to hG r _ _ h)
      intro h
      unfold opr at h
      split at h
      · rename_i hi
        rcases opP_spec (P := P) hG h with h | ⟨v, hk, hp⟩
        · exact h.elim
        · exact .inl ⟨hi, v, hp, VCo_to hG r _ _ hk⟩
      · rename_i hi
        exact .inr ⟨hi, (h.mono fun v D h => VCo_to hG r _ _ h).toU hG⟩
    · exact h.elim
/-- A REGION IN WHATEVER ORDER, walked in an order of one's own: m operations at will, the rest in a row. -/
theorem drawnO (hG : Agree P Γ) (hm : P.follows .mixedOrders = true) {id : Nat} {ops : Array Oper} (m : Nat) (ord : List Nat) (hreg : regOk ops.toList m ord = true) (S : World → World → Prop) (hS : Pre S) {K : Exit → Env → World → Prop} {e : Env} {w : World}
    (h : VCo P Γ S w ops.toList (masks ops.toList) (fun E Ds => ∀ W, S w W → (∀ j, getDs Ds j W) → VCl P Γ ops.toList (K .normal) (ops.toList.drop m) E W) ord [] e) :
    Piece P n ds rd (.region id ops true) K e w := drawnS hG hm m ord hreg S hS (VCo_to hG _ _ _ h)
theorem drawnK (hG : Agree P Γ) (hm : P.follows .mixedOrders = true) {id : Nat} {ops : Array Oper} (m : Nat) (ord : List Nat) (hreg : regOk ops.toList m ord = true) {K : Exit → Env → World → Prop} {e : Env} {w : World}
    (h : VCo P Γ Kp w ops.toList (masks ops.toList) (fun E Ds => ∀ W, Kp w W → (∀ j, getDs Ds j W) → VCl P Γ ops.toList (K .normal) (ops.toList.drop m) E W) ord [] e) :
    Piece P n ds rd (.region id ops true) K e w := drawnO hG hm m ord hreg Kp (preChg _) h
end

/-! ### an order of one's own, where one operation breaks what the others ahead of it see -/
def oprU (P : Program) (Γ : List (Nat × TI)) (S : World → World → Prop) (U : World → Prop) (px xx : Bool) (w0 : World) (Dn : World → Prop) (e : Env) (o : Oper) (K : Value → Option DP → Prop) : Prop := match isPure o.op with
  | true => opP P Γ e o False fun v => K v none
  | false => MkU S U px xx w0 Dn (op1 P Γ e o) fun v D => K v (some D)
noncomputable def VCu (P : Program) (Γ : List (Nat × TI)) (S : World → World → Prop) (U : World → Prop) (x0 : Nat) (w0 : World) (ops : List Oper) (ms : List Nat) (Q : Env → List (Nat × DP) → Prop) (l : List Nat) : List (Nat × DP) → Env → Prop :=
  List.rec (motive := fun _ => List (Nat × DP) → Env → Prop) (fun Ds e => Q e Ds)
    (fun i _ ih Ds e => match nthO ops i with
      | some o => grd ops e o (oprU P Γ S U (pxOf ms x0 i) (Nat.beq i x0) w0 (DnF ((ms[i]?).getD 0) Ds) e o fun v D => ih (addD Ds i D) (putE e o.dst v)) (ih Ds (putE e o.dst undef))
      | none => False) l
section
variable {P : Program} {Γ : List (Nat × TI)} {n : Nat} {ds : List Deferred} {rd : Option Nat}
theorem VCu_to (hG : Agree P Γ) {S : World → World → Prop} {U : World → Prop} {x0 : Nat} {w0 : World} {ops : List Oper} {ms : List Nat} {Q : Env → List (Nat × DP) → Prop} : ∀ (l : List Nat) (Ds : List (Nat × DP)) (e : Env), VCu P Γ S U x0 w0 ops ms Q l Ds e → VCs P Γ S U x0 w0 ops ms Q ((nodes ops l).map fun p => (p.1, p.2, none)) Ds e
  | [], Ds, e, h => h
  | i :: r, Ds, e, h => by
    change (match nthO ops i with
      | some o => grd ops e o (oprU P Γ S U (pxOf ms x0 i) (Nat.beq i x0) w0 (DnF ((ms[i]?).getD 0) Ds) e o fun v D => VCu P Γ S U x0 w0 ops ms Q r (addD Ds i D) (putE e o.dst v)) (VCu P Γ S U x0 w0 ops ms Q r Ds (putE e o.dst undef))
      | none => False) at h
    simp only [nodes, List.map_cons, VCs]
    split at h
    · rename_i o ho
      rw [nthO_eq] at ho
      rw [ho, Option.getD_some]
      refine grd_mono h ?_ (fun h => VCu_to hG r _ _ h)
      intro h
      unfold oprU at h
      split at h
      · rename_i hi
        rcases opP_spec (P := P) hG h with h | ⟨v, hk, hp⟩
        · exact h.elim
        · exact .inl ⟨hi, v, hp, VCu_to hG r _ _ hk⟩
      · rename_i hi
        obtain ⟨τ, hn, f, F, h1, h2, h3⟩ := h
        exact .inr ⟨hi, τ, hn, f, F, h1, fun W a b c => op1_does hG (h2 W a b c), fun y D hD => VCu_to hG r _ _ (h3 y D hD)⟩
    · exact h.elim
/-- A REGION IN WHATEVER ORDER, in which one operation (the x0-th) breaks U. -/
theorem drawnU (hG : Agree P Γ) (hm : P.follows .mixedOrders = true) {id : Nat} {ops : Array Oper} (m : Nat) (ord : List Nat) (hreg : regOk ops.toList m ord = true) (S : World → World → Prop) (hS : Pre S) (U : World → Prop) (x0 : Nat) {K : Exit → Env → World → Prop} {e : Env} {w : World} (hU : U w.drew)
    (h : VCu P Γ S U x0 w ops.toList (masks ops.toList) (fun E Ds => ∀ W, S w W → (∀ j, getDs Ds j W) → VCl P Γ ops.toList (K .normal) (ops.toList.drop m) E W) ord [] e) :
    Piece P n ds rd (.region id ops true) K e w := drawnV hG hm m ord hreg S hS U x0 hU (VCu_to hG _ _ _ h)
/-- a load in such a region -/
theorem ldu {S : World → World → Prop} {U : World → Prop} {px xx : Bool} (hS : Pre S) (hG : Agree P Γ) {t : TypeId} {b o : Nat} {cs : List Value} {e : Env} {w0 : World} {Dn : World → Prop} {op : Oper} {x : Operand} {K : Value → DP → Prop} (ho : op.op = .load t x) (hx : ev e x = pt b o) {v : Value} (hr : ∀ W, S w0 W → Dn W → (px = true → U W) → W.rangeAt b o cs) (hv : asV Γ t cs = some v) (hk : ∀ D, K v D) :
    MkU S U px xx w0 Dn (op1 P Γ e op) K :=
  ⟨Unit, ⟨()⟩, fun _ => v, fun _ _ => True, fun _ _ _ _ _ => trivial, fun W h1 h2 h3 => by
    unfold op1
    rw [ho]
    simp only [isPure]
    rw [hx]
    exact ld hG (hr W h1 h2 h3) hv ⟨⟨hS.refl _, fun _ h => h⟩, (), rfl, trivial⟩, fun _ D _ => hk D⟩
/-- a store in such a region, of which F is told -/
theorem stu {S : World → World → Prop} {U : World → Prop} {px : Bool} {e : Env} {w0 : World} {Dn : World → Prop} {op : Oper} {t : TypeId} {x y : Operand} {K : Value → DP → Prop} (F : World → Prop) (ho : op.op = .store t x y) (hst : ∀ W W', F W → S W W' → F W')
    (h : ∀ W, S w0 W → Dn W → (px = true → U W) → St P t (ev e x) (ev e y) W fun W' => S W W' ∧ F W') (hk : ∀ D, (∀ W, D W → F W) → K undef D) : MkU S U px true w0 Dn (op1 P Γ e op) K :=
  ⟨Unit, ⟨()⟩, fun _ => undef, fun _ W => F W, fun _ W W' => hst W W', fun W h1 h2 h3 => by
    unfold op1
    rw [ho]
    simp only [isPure]
    obtain ⟨w', q1, q2, q3⟩ := h W h1 h2 h3
    exact ⟨w', q1, ⟨q2, fun hh => by cases hh⟩, (), trivial, q3⟩, fun _ D hD => hk D hD⟩
end
end Go.Au
