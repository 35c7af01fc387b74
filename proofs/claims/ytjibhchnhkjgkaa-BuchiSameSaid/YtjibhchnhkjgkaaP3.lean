/- Own text of this workplace: a part of the proofs of this place's statements. -/
import Derived.Lib.AppendZeros
import Derived.Shelf.SortM.Plain
import Derived.Shelf.SortM.SortNone
import Derived.Shelf.SlSortCmp.NoneTotal
import Derived.Shelf.SlGeneric
import Derived.Ground.SlsfProg
import Derived.Ground.SlgmProg
import Derived.Test.YtjibhchnhkjgkaaChecked
import Derived.Test.YtjibhchnhkjgkaaP0
import Derived.Test.YtjibhchnhkjgkaaG
import Derived.Test.YtjibhchnhkjgkaaP2
set_option maxRecDepth 40000
set_option linter.unusedVariables false
set_option linter.unusedSimpArgs false
set_option linter.unusedSectionVars false
namespace Go.Au
open Go Go.RowKit

section
variable {P : Program} {Γ : List (Nat × TI)} {ρ : Operand → Value} {o : Oper} {K : Value → Prop}
def isSl (Γ : List (Nat × TI)) (t : TypeId) : Bool := match look Γ t with
  | some ti => match ti.desc with
    | .slice _ => true
    | _ => false
  | none => false
theorem run_equalIn_sl_nil (d : Nat) {t el : TypeId} (W : World) (hu : P.underlying t = some (.slice el)) (a : Option Addr) (n c : Nat) : (Op.equalIn (d + 1) t (.slice a n c) (.slice none 0 0)).run P W = .ok a.isNone W := by cases a <;> simp [Op.equalIn, run_underlying hu]
theorem run_sl_nil (hG : Agree P Γ) {t : TypeId} (ht : isSl Γ t = true) (a : Option Addr) (n c : Nat) (W : World) : (Op.equal t (.slice a n c) (.slice none 0 0)).run P W = .ok a.isNone W := by
  unfold isSl at ht
  split at ht
  · rename_i ti hl
    have hu := (hG.look hl).1
    split at ht
    · rename_i hd
      simp only [hd] at hu
      exact run_equalIn_sl_nil 9999 W hu a n c
    · cases ht
  · cases ht
/-- a slice against nil -/
theorem slNil (hG : Agree P Γ) {t t' : TypeId} {x y : Operand} {a : Option Addr} {n c : Nat} (ho : o.op = .binOp .eql t x y t') (hx : ρ x = .slice a n c) (hy : ρ y = .slice none 0 0) (ht : isSl Γ t = true) (hk : K (.bool a.isNone)) : PR P ρ o K := by
  refine ⟨_, pure_value (s := (do eqGuard .eql t x y (.slice a n c) (.slice none 0 0); binOp .eql t (.slice a n c) (.slice none 0 0))) (by unfold execOp; rw [ho]; simp only [hx, hy]) fun W => ?_, hk⟩
  have hg : (eqGuard .eql t x y (.slice a n c) (.slice none 0 0)).run P W = .ok () W := by
    unfold eqGuard
    simp
  rw [Sem.run_bind, hg]
  simp only [Result.andThen, binOp]
  rw [Sem.run_bind, run_sl_nil hG ht]
  rfl
end
end Go.Au

namespace Go.Au
open Go Go.RowKit

section
variable {P : Program} {Γ : List (Nat × TI)} {ρ : Operand → Value} {o : Oper} {K : Value → Prop}
/-- an element of an array that is pointed to -/
theorem ixArr (hG : Agree P Γ) {t el : TypeId} {x y : Operand} {b o1 len : Nat} {k : IntKind} {j : Nat} {ti tj : TI} (ho : o.op = .indexAddr t x y) (hx : ρ x = .pointer (some ⟨b, o1, none⟩)) (hy : ρ y = .int k j) (hl : look Γ t = some ti) (hd : ti.desc = .array len el) (hj : look Γ el = some tj) (h : j < len) (hk : K (.pointer (some ⟨b, o1 + j * tj.size, none⟩))) : PR P ρ o K := by
  have hu := (hG.look hl).1
  simp only [hd] at hu
  have hs := (hG.look hj).2.1
  have sz : ∀ W, Sem.run P (sizeOf el) W = .ok tj.size W := fun W => by
    cases hi : P.info? el with
    | none => simp [hi] at hs
    | some i =>
      simp [hi] at hs
      simp [sizeOf, typeInfo, hi, hs.2.1, Result.andThen, go_sem]
  refine ⟨_, fun W => ?_, hk⟩
  unfold execOp
  rw [ho]
  simp only [hx, hy]
  simp [Instr.indexAt, asIntOf, run_underlying hu, h, Result.andThen, Instr.sureAddr]
  rw [sz]
  simp [add_none]
end
end Go.Au

namespace Go.Au
open Go Go.RowKit

/-! ### a part of a row -/
section
variable {α : Type} {E : World → List Value → α → Prop} {size lo hi : Nat} {w : World} {a : Option Addr} {c k : Nat} {xs : List α}
theorem rowT (h : RowE E size lo hi w (.slice a xs.length c) xs) (hk : k ≤ xs.length) : RowE E size lo hi w (.slice a k c) (xs.take k) := by
  obtain ⟨a', c', he, hc, hr⟩ := h
  injection he with h1 h2 h3
  subst h1 h3
  have hl : (xs.take k).length = k := by rw [List.length_take]; omega
  refine ⟨a, c, by rw [hl], by omega, fun i x hx => ?_⟩
  have hi := (List.getElem?_eq_some_iff.1 hx).1
  rw [List.getElem?_take, if_pos (by omega)] at hx
  exact hr i x hx
theorem rowD (h : RowE E size lo hi w (.slice a xs.length c) xs) (hk : k ≤ xs.length) : RowE E size lo hi w (.slice (if c = k then a else a.map (·.add (k * size))) (xs.length - k) (c - k)) (xs.drop k) := by
  obtain ⟨a', c', he, hc, hr⟩ := h
  injection he with h1 h2 h3
  subst h1 h3
  refine ⟨_, _, by rw [List.length_drop], by rw [List.length_drop]; omega, fun i x hx => ?_⟩
  have hi := (List.getElem?_eq_some_iff.1 hx).1
  rw [List.length_drop] at hi
  rw [List.getElem?_drop] at hx
  obtain ⟨b, o, rfl, h1, h2, cs, h3, h4, h5⟩ := hr (k + i) x hx
  rw [if_neg (by omega)]
  refine ⟨b, o + k * size, ?_, h1, h2, cs, h3, ?_, h5⟩
  · simp only [Option.map_some, Addr.add]
    split
    · rename_i h0; rw [h0, Nat.add_zero]
    · rfl
  · rw [Nat.add_mul] at h4
    rw [Nat.add_assoc]; exact h4
end

theorem ownsRow_base {w : World} {base size n j : Nat} {el : TypeId} {v : Value} {xs : List Value} (h : w.ownsRow base el size v n xs) (hj : v.ownBlock = some j) : base ≤ j := by
  rcases h.2 with ⟨rfl, _⟩ | ⟨g, cap, cur, rfl, a2, _⟩
  · cases hj
  · have : g = j := by simpa [Value.ownBlock] using hj
    omega

/-! ### room ahead -/
section
variable {P : Program} {Γ : List (Nat × TI)} {w : World} {n : Nat} {t t' el : TypeId} {ti tj ti' : TI}
/-- append(nil, make([]T, n)...) -/
theorem apz (hG : Agree P Γ) {ρ : Operand → Value} {op : Oper} {s x : Operand} {K : Value → World → Prop} (ho : op.op = .call { callee := .builtin .append, args := #[s, x], argTypes := #[t, t'] }) (hs : ρ s = .slice none 0 0) (hx : ρ x = .int .i64 (n : Int))
    (hl : look Γ t = some ti) (hd : ti.desc = .slice el) (hj : look Γ el = some tj) (hl' : look Γ t' = some ti') (hd' : ti'.desc = .int .i64) (hsz : tj.size = 1) (h0 : 0 < n) (h63 : n ≤ maxLen) (hby : n * tj.bytes ≤ 140737488355328)
    (hk : ∀ b c w', w.heap.size = b → n ≤ c → Kp w w' → (∀ base, base ≤ b → w'.ownsRow base el 1 (.slice (some ⟨b, 0, none⟩) 0 c) 0 []) → K (.slice (some ⟨b, 0, none⟩) n c) w') : Raw P ρ op w K := by
  have hok := hG.look hj
  obtain ⟨i, hi, hz, hs1, hbt⟩ := hok.info
  have hu := (hG.look hl).1
  simp only [hd] at hu
  have hu' := (hG.look hl').1
  simp only [hd'] at hu'
  have hrun := Lib.run_append_nil_zeros (P := P) w t t' op.type el i tj.zero .i64 .i64 hu hu' hi hz n h0 (by rw [hs1, hsz]; decide) (by simp only [maxLen] at h63; omega) (by rw [hbt]; omega)
  have hcz : tj.zero.cells.size = 1 := hok.2.2.trans hsz
  refine ⟨_, w.drew.alloc (.cells (Builtin.zeroCells tj.zero.cells n ++ Builtin.zeroCells tj.zero.cells (grownCap w n 0 el - n)) el), ?_, hk w.heap.size (grownCap w n 0 el) _ rfl (grownCap_ge w n 0 el) ?_ ?_⟩
  · unfold execOp
    simp only [ho, resolve, invoke, builtin, Sem.run_bind, Sem.run_pure, Result.andThen_ok, List.map_toArray, List.map_cons, List.map_nil, hs, hx, hrun]
  · refine ⟨rfl, rfl, Nat.le_succ _, rfl, ?_, fun k hk _ => ?_⟩
    · show w.heap.size ≤ (w.heap.push _).size
      simp
    · show (w.heap.push _)[k]? = _
      rw [Array.getElem?_push, if_neg (by omega)]
  · intro base hb
    refine ⟨rfl, .inr ⟨_, _, Builtin.zeroCells tj.zero.cells n ++ Builtin.zeroCells tj.zero.cells (grownCap w n 0 el - n), rfl, hb, ?_, Nat.zero_le _, grownCap_le_maxLen w n 0 el h63, ?_, by simp⟩⟩
    · show (w.heap.push _)[w.heap.size]? = _
      simp
    · rw [Array.size_append, size_zeroCells, size_zeroCells, hcz]
      have := grownCap_ge w n 0 el
      omega
end
end Go.Au

namespace Go.Au
open Go Go.RowKit

/-- an arithmetic answer, in the form one likes -/
theorem arX {z z' : Int} {K : Int → Prop} (hz : z = z') (h : K z') : Ar z K := by subst hz; exact ar h

section
variable {P : Program} {Γ : List (Nat × TI)} {w : World} {b o n c : Nat} {t el et : TypeId} {cs : List Value} {ti tj : TI}
/-- clear, of a part of a block known whole -/
theorem clrS (hG : Agree P Γ) {ρ : Operand → Value} {op : Oper} {x : Operand} {K : Value → World → Prop} (ho : op.op = .call { callee := .builtin .clear, args := #[x], argTypes := #[t] }) (hx : ρ x = .slice (some ⟨b, o, none⟩) n c)
    (hl : look Γ t = some ti) (hd : ti.desc = .slice el) (hj : look Γ el = some tj) (hO : Own w b et cs) (hn : 0 < n) (hle : o + n * tj.size ≤ cs.length) (h1 : (cellsL tj.zero).all (·.oneCell') = true)
    (hk : ∀ w' zs, zs.length = n * tj.size → w'.heap.size = w.heap.size → Chg (fun k => k = b) w w' → Own w' b et (lay cs o zs) → K (.tuple #[]) w') : Raw P ρ op w K := by
  obtain ⟨zs, hzs⟩ : ∃ zs, zs = (Builtin.zeroCells tj.zero.cells n).toList := ⟨_, rfl⟩
  have hcz : tj.zero.cells.size = tj.size := (hG.look hj).2.2
  have hzl : zs.length = n * tj.size := by rw [hzs]; simp [Builtin.zeroCells, hcz]
  have hz1 : ∀ v ∈ zs, v.oneCell' = true := fun v hv => by
    rw [hzs] at hv
    simp only [Builtin.zeroCells, Array.toList_map, List.mem_map] at hv
    obtain ⟨i, hi, rfl⟩ := hv
    have hi' : i < n * tj.zero.cells.size := by simpa using hi
    have hs0 : 0 < tj.zero.cells.size := by
      rcases Nat.eq_zero_or_pos tj.zero.cells.size with h | h
      · rw [h] at hi'; simp at hi'
      · exact h
    have hm := Nat.mod_lt i hs0
    rw [getElem!_pos tj.zero.cells _ hm]
    refine List.all_eq_true.1 h1 _ ?_
    rw [← cellsL_eq']
    exact List.mem_of_getElem? (i := i % tj.zero.cells.size) (by simp [hm])
  have hp := setCells_own zs _ o _ hO
  refine ⟨.tuple #[], w.setCells b o zs, ?_, hk _ zs hzl hp.size hp.chg hp.here⟩
  have hu := (hG.look hl).1
  simp only [hd] at hu
  have hth : ∀ j, j < zs.length → (w.cell? ⟨b, o + 0 + j, none⟩).isSome = true := fun j hj => by
    rw [cell_of_row w b _ _ et _ hO]
    simp
    omega
  have hfr : ∀ j, j < zs.length → w.frozen? ⟨b, o + 0 + j, none⟩ = false := fun j hj => by
    unfold World.frozen?
    rw [show w.heap[(⟨b, o + 0 + j, none⟩ : Addr).block]? = _ from hO]
    simp
  have hst := run_storeCells_cells (P := P) b o zs 0 w hth hfr hz1
  simp only [Nat.add_zero] at hst
  have hzero := run_zero (hG.look hj) w
  have hrun : (Builtin.clear_ #[t] op.type #[.slice (some ⟨b, o, none⟩) n c]).run P w = .ok (.tuple #[]) (w.setCells b o zs) := by
    obtain ⟨m, rfl⟩ : ∃ m, n = m + 1 := ⟨n - 1, by omega⟩
    simp [Builtin.clear_, run_underlying hu, hzero, ← hzs, hst]
  unfold execOp
  simp only [ho, resolve, invoke, builtin, Sem.run_bind, Sem.run_pure, Result.andThen_ok, List.map_toArray, List.map_cons, List.map_nil, hx, hrun]
end

/-! ### elements written over -/
theorem lay_right (a : List Value) : ∀ (vs b : List Value) (o : Nat), lay (a ++ b) (a.length + o) vs = a ++ lay b o vs
  | [], _, _ => rfl
  | v :: r, b, o => by
    show lay ((a ++ b).set (a.length + o) v) (a.length + o + 1) r = a ++ lay (b.set o v) (o + 1) r
    rw [List.set_append_right _ _ (Nat.le_add_right _ _), Nat.add_sub_cancel_left, Nat.add_assoc]
    exact lay_right a r (b.set o v) (o + 1)
theorem lay_left (b : List Value) : ∀ (vs a p : List Value), vs.length = a.length → lay (p ++ (a ++ b)) p.length vs = p ++ (vs ++ b)
  | [], a, p, h => by
    have : a = [] := List.eq_nil_of_length_eq_zero h.symm
    subst this; rfl
  | v :: r, [], p, h => by simp at h
  | v :: r, x :: a, p, h => by
    show lay ((p ++ (x :: a ++ b)).set p.length v) (p.length + 1) r = _
    rw [List.set_append_right _ _ (Nat.le_refl _), Nat.sub_self]
    have h2 := lay_left b r a (p ++ [v]) (by simpa using h)
    simp only [List.length_append, List.length_cons, List.length_nil, List.append_assoc, List.cons_append, List.nil_append] at h2
    exact h2
theorem lay_flat {α : Type} {f : α → List Value} {size : Nat} (hf : ∀ x, (f x).length = size) (rest : List Value) (x : α) : ∀ (ys : List α) (k : Nat), k < ys.length → lay (ys.flatMap f ++ rest) (k * size) (f x) = (ys.set k x).flatMap f ++ rest
  | [], k, h => by simp at h
  | y :: r, 0, h => by
    have := lay_left (r.flatMap f ++ rest) (f x) (f y) [] (by rw [hf, hf])
    rw [Nat.zero_mul]
    simpa [List.append_assoc] using this
  | y :: r, k + 1, h => by
    have h1 := lay_flat hf rest x r k (by simpa using h)
    have h2 := lay_right (f y) (f x) (r.flatMap f ++ rest) (k * size)
    rw [hf, h1] at h2
    rw [Nat.add_mul, Nat.one_mul, Nat.add_comm (k * size)]
    simpa [List.append_assoc] using h2
theorem lay_split (cs : List Value) (o : Nat) (vs : List Value) (h : o + vs.length ≤ cs.length) : lay cs o vs = cs.take o ++ vs ++ cs.drop (o + vs.length) := by
  have h1 := lay_left (cs.drop (o + vs.length)) vs ((cs.drop o).take vs.length) (cs.take o) (by simp; omega)
  have h2 : (cs.drop o).take vs.length ++ cs.drop (o + vs.length) = cs.drop o := by rw [← List.drop_drop]; exact List.take_append_drop _ _
  rw [h2, List.take_append_drop, List.length_take, Nat.min_eq_left (by omega)] at h1
  rw [h1, List.append_assoc]
end Go.Au

namespace Go.Au
open Go Go.RowKit

/-! ### a call that writes, beside an append of what it hands back -/
/-- T: what the call writes (it lays a block, too: by that one sees that it is done); v: the row that is appended to -/
structure CAppR (T : Nat → Prop) (w0 : World) (v : Value) (k : Nat) (news : List Value) (W W' : World) : Prop where
  chg : Chg (fun g => T g ∨ some g = v.ownBlock) W W'
  row : ∀ g, v.ownBlock = some g → g < W.heap.size → W'.heap[g]? = W.heap[g]? ∨ (W.heap[g]? = app1 w0 v ∧ W'.heap[g]? = app2 k news (app1 w0 v))
  once : (∀ g, T g → g < W.heap.size → W'.heap[g]? = W.heap[g]?) ∨ W.heap.size ≤ w0.heap.size
theorem preCAppR (T : Nat → Prop) (w0 : World) (v : Value) (k : Nat) (news : List Value) : Pre (CAppR T w0 v k news) :=
  ⟨fun h => ⟨h.mono fun _ hf => hf.elim, fun g _ hl => .inl (h.block g hl id), .inl fun g _ hl => h.block g hl id⟩, fun h g => ⟨h.chg.trans g.chg, fun x hx hl => by
    rcases h.row x hx hl with a | ⟨a, a'⟩ <;> rcases g.row x hx (Nat.lt_of_lt_of_le hl h.chg.size) with c | ⟨c, c'⟩
    · exact .inl (c.trans a)
    · exact .inr ⟨a ▸ c, c'⟩
    · exact .inr ⟨a, c.trans a'⟩
    · exact .inr ⟨a, c'⟩, by
    have hs := h.chg.size
    rcases h.once with a | a
    · rcases g.once with c | c
      · exact .inl fun x hx hl => (c x hx (Nat.lt_of_lt_of_le hl hs)).trans (a x hx hl)
      · exact .inr (Nat.le_trans hs c)
    · exact .inr a⟩⟩
theorem CAppR.bears {T : Nat → Prop} {w0 : World} {v : Value} {k : Nat} {news : List Value} (hv : ∀ g, v.ownBlock = some g → g < w0.heap.size) (hT : ∀ g, T g → g < w0.heap.size) (hn : ∀ g, T g → v.ownBlock ≠ some g) : BearsApp (CAppR T w0 v k news) w0 v k news :=
  ⟨preCAppR _ _ _ _ _, fun _ _ h => h.row, fun _ _ g o h hg ho => h.chg.heap ho fun hc => hc.elim (fun hc => by have := hT g hc; omega) fun hc => by have := hv g hc.symm; omega, fun _ _ h => h.chg.size,
    fun W W' h0 h => ⟨h.chg.mono fun _ => .inr, h.row, .inl fun g hg hl => h.chg.block g hl fun hc => hn g hg hc.symm⟩⟩

/-! ### an order of one's own, where one operation (the x0-th) breaks U, and what depends on it needs not keep U -/
def oprW (P : Program) (Γ : List (Nat × TI)) (S : World → World → Prop) (U : World → Prop) (bh px xx : Bool) (w0 : World) (Dn : World → Prop) (e : Env) (o : Oper) (K : Value → Option DP → Prop) : Prop := match isPure o.op with
  | true => opP P Γ e o False fun v => K v none
  | false => match bh with
    | true => (∀ W, S w0 W → Dn W → ¬ U W) ∧ Mk S w0 Dn (op1 P Γ e o) fun v D => K v (some D)
    | false => MkU S U px xx w0 Dn (op1 P Γ e o) fun v D => K v (some D)
noncomputable def VCw (P : Program) (Γ : List (Nat × TI)) (S : World → World → Prop) (U : World → Prop) (x0 : Nat) (w0 : World) (ops : List Oper) (ms : List Nat) (Q : Env → List (Nat × DP) → Prop) (l : List Nat) : List (Nat × DP) → Env → Prop :=
  List.rec (motive := fun _ => List (Nat × DP) → Env → Prop) (fun Ds e => Q e Ds)
    (fun i _ ih Ds e => match nthO ops i with
      | some o => grd ops e o (oprW P Γ S U (((ms[i]?).getD 0).testBit x0) (pxOf ms x0 i) (Nat.beq i x0) w0 (DnF ((ms[i]?).getD 0) Ds) e o fun v D => ih (addD Ds i D) (putE e o.dst v)) (ih Ds (putE e o.dst undef))
      | none => False) l
section
variable {P : Program} {Γ : List (Nat × TI)} {n : Nat} {ds : List Deferred} {rd : Option Nat}
theorem VCw_to (hG : Agree P Γ) {S : World → World → Prop} {U : World → Prop} {x0 : Nat} {w0 : World} {ops : List Oper} {ms : List Nat} {Q : Env → List (Nat × DP) → Prop} : ∀ (l : List Nat) (Ds : List (Nat × DP)) (e : Env), VCw P Γ S U x0 w0 ops ms Q l Ds e → VCs P Γ S U x0 w0 ops ms Q ((nodes ops l).map fun p => (p.1, p.2, none)) Ds e
  | [], Ds, e, h => h
  | i :: r, Ds, e, h => by
    change (match nthO ops i with
      | some o => grd ops e o (oprW P Γ S U (((ms[i]?).getD 0).testBit x0) (pxOf ms x0 i) (Nat.beq i x0) w0 (DnF ((ms[i]?).getD 0) Ds) e o fun v D => VCw P Γ S U x0 w0 ops ms Q r (addD Ds i D) (putE e o.dst v)) (VCw P Γ S U x0 w0 ops ms Q r Ds (putE e o.dst undef))
      | none => False) at h
    simp only [nodes, List.map_cons, VCs]
    split at h
    · rename_i o ho
      rw [nthO_eq] at ho
      rw [ho, Option.getD_some]
      refine grd_mono h ?_ (fun h => VCw_to hG r _ _ h)
      intro h
      unfold oprW at h
      split at h
      · rename_i hi
        rcases opP_spec (P := P) hG h with h | ⟨v, hk, hp⟩
        · exact h.elim
        · exact .inl ⟨hi, v, hp, VCw_to hG r _ _ hk⟩
      · rename_i hi
        split at h
        · obtain ⟨hU, τ, hn, f, F, h1, h2, h3⟩ := h
          exact .inr ⟨hi, τ, hn, f, F, h1, fun W a b _ => (op1_does hG (h2 W a b)).mono fun v W' ⟨s, d⟩ => ⟨⟨s, fun _ hu => absurd hu (hU W a b)⟩, d⟩, fun y D hD => VCw_to hG r _ _ (h3 y D hD)⟩
        · obtain ⟨τ, hn, f, F, h1, h2, h3⟩ := h
          exact .inr ⟨hi, τ, hn, f, F, h1, fun W a b c => op1_does hG (h2 W a b c), fun y D hD => VCw_to hG r _ _ (h3 y D hD)⟩
    · exact h.elim
/-- A REGION IN WHATEVER ORDER, in which one operation (the x0-th) breaks U, and others stand behind it. -/
theorem drawnW (hG : Agree P Γ) (hm : P.follows .mixedOrders = true) {id : Nat} {ops : Array Oper} (m : Nat) (ord : List Nat) (hreg : regOk ops.toList m ord = true) (S : World → World → Prop) (hS : Pre S) (U : World → Prop) (x0 : Nat) {K : Exit → Env → World → Prop} {e : Env} {w : World} (hU : U w.drew)
    (h : VCw P Γ S U x0 w ops.toList (masks ops.toList) (fun E Ds => ∀ W, S w W → (∀ j, getDs Ds j W) → VCl P Γ ops.toList (K .normal) (ops.toList.drop m) E W) ord [] e) :
    Piece P n ds rd (.region id ops true) K e w := drawnV hG hm m ord hreg S hS U x0 hU (VCw_to hG _ _ _ h)
/-- the call that breaks U -/
theorem callu {S : World → World → Prop} {U : World → Prop} {e : Env} {w0 : World} {Dn : World → Prop} {op : Oper} {K : Value → DP → Prop} {c : Go.Call} {τ : Type} [hne : Nonempty τ] (v : Value) (F : τ → World → Prop) (ho : op.op = .call c) {fo : Operand} {g : FuncId} {first cap : Array Value} (hc : c.callee = .value fo) (hf : ev e fo = .func (.func g) first cap)
    (hst : ∀ y W W', F y W → S W W' → F y W') (hcall : callable P g = true) (h : ∀ W, S w0 W → Dn W → U W → Calls P g (first.toList ++ c.args.toList.map (ev e) ++ cap.toList).toArray W (Ret fun r W' => r = v ∧ S W W' ∧ ∃ y, F y W'))
    (hk : ∀ y D, (∀ W, D W → F y W) → K v D) : MkU S U true true w0 Dn (op1 P Γ e op) K :=
  ⟨τ, hne, fun _ => v, F, hst, fun W h1 h2 h3 => by
    unfold op1
    rw [ho]
    simp only [isPure, hc, hf]
    exact ⟨hcall, Calls.mono (h W h1 h2 (h3 rfl)) fun en w' hr => by
      cases en with
      | returned r =>
        obtain ⟨rfl, hs, y, hy⟩ := hr
        exact ⟨⟨hs, fun hh => by cases hh⟩, y, rfl, hy⟩
      | _ => exact hr.elim⟩, fun y D hD => hk y D hD⟩
end
section
variable {P : Program} {Γ : List (Nat × TI)} {w : World} {base size n m c b o : Nat} {v : Value} {xs news : List Value} {t el : TypeId} {ti tj : TI}
/-- an append to a row of one's own, and where the new row lies -/
theorem apL (hG : Agree P Γ) {ρ : Operand → Value} {op : Oper} {s x : Operand} {K : Value → World → Prop} (ho : op.op = .call { callee := .builtin .append, args := #[s, x], argTypes := #[t, t] }) (hs : ρ s = v) (hx : ρ x = .slice (some ⟨b, o, none⟩) m c)
    (hl : look Γ t = some ti) (hd : ti.desc = .slice el) (hj : look Γ el = some tj) (hsz : tj.size = size) (hpos : 0 < size) (hown : w.ownsRow base el size v n xs)
    (hn : news.length = m * size) (hr : w.rangeAt b o news) (h1 : news.all (·.oneCell') = true) (h63 : n + m ≤ maxLen) (hby : (n + m) * tj.bytes ≤ 140737488355328) (hb : base ≤ w.heap.size)
    (hk : ∀ v' w', w'.ownsRow base el size v' (n + m) (xs ++ news) → Chg (fun k => some k = v.ownBlock) w w' → (∀ g, v'.ownBlock = some g → v.ownBlock = some g ∨ w.heap.size ≤ g) → K v' w') : Raw P ρ op w K := by
  obtain ⟨v', w', hrun, h2, h3, h4⟩ := appR_run (c := c) (w := w) (w0 := w) hG hl hd hj hsz hpos hown hn (Nat.le_refl _) (fun g _ _ => .inl rfl) hr h1 h63 hby hb op.type
  refine ⟨v', w', ?_, hk v' w' h3 h2.chg fun g hg => (h4 g hg).imp (·.1) id⟩
  unfold execOp
  simp only [ho, resolve, invoke, builtin, Sem.run_bind, Sem.run_pure, Result.andThen_ok, List.map_toArray, List.map_cons, List.map_nil, hs, hx, hrun]
end
end Go.Au

namespace Go.Au
open Go Go.RowKit

section
variable {P : Program} {Γ : List (Nat × TI)}
/-- a call that keeps U -/
theorem calluk {S : World → World → Prop} {U : World → Prop} {px xx : Bool} {e : Env} {w0 : World} {Dn : World → Prop} {op : Oper} {K : Value → DP → Prop} {c : Go.Call} {τ : Type} [hne : Nonempty τ] (f : τ → Value) (F : τ → World → Prop) (ho : op.op = .call c) {fo : Operand} {g : FuncId} {first cap : Array Value} (hc : c.callee = .value fo) (hf : ev e fo = .func (.func g) first cap)
    (hst : ∀ y W W', F y W → S W W' → F y W') (hcall : callable P g = true) (h : ∀ W, S w0 W → Dn W → Calls P g (first.toList ++ c.args.toList.map (ev e) ++ cap.toList).toArray W (Ret fun r W' => S W W' ∧ (U W → U W') ∧ ∃ y, r = f y ∧ F y W'))
    (hk : ∀ y D, (∀ W, D W → F y W) → K (f y) D) : MkU S U px xx w0 Dn (op1 P Γ e op) K :=
  ⟨τ, hne, f, F, hst, fun W h1 h2 _ => by
    unfold op1
    rw [ho]
    simp only [isPure, hc, hf]
    exact ⟨hcall, Calls.mono (h W h1 h2) fun en w' hr => by
      cases en with
      | returned r =>
        obtain ⟨hs, hu, y, hy⟩ := hr
        exact ⟨⟨hs, fun _ => hu⟩, y, hy⟩
      | _ => exact hr.elim⟩, fun y D hD => hk y D hD⟩
end
/-- beside one store into b, behind which Q holds -/
structure ChgQ (b : Nat) (Q : World → Prop) (W W' : World) : Prop where
  chg : Chg (fun k => k = b) W W'
  row : (b < W.heap.size → W'.heap[b]? = W.heap[b]?) ∨ Q W'
theorem preChgQ {b : Nat} {Q : World → Prop} (hQ : ∀ W W', Q W → Chg (fun k => k = b) W W' → (b < W.heap.size → W'.heap[b]? = W.heap[b]?) → Q W') : Pre (ChgQ b Q) :=
  ⟨fun h => ⟨h.mono fun _ hf => hf.elim, .inl fun hl => h.block b hl id⟩, fun h k => ⟨h.chg.trans k.chg, by
    rcases k.row with c | c
    · rcases h.row with a | a
      · exact .inl fun hl => (c (Nat.lt_of_lt_of_le hl h.chg.size)).trans (a hl)
      · exact .inr (hQ _ _ a k.chg c)
    · exact .inr c⟩⟩
theorem ChgQ.keeps {b : Nat} {Q : World → Prop} (hQ : ∀ W W', Q W → Chg (fun k => k = b) W W' → (b < W.heap.size → W'.heap[b]? = W.heap[b]?) → Q W') {W W' : World} (h : Q W) (k : ChgQ b Q W W') : Q W' := k.row.elim (hQ W W' h k.chg) id

/-! ### beside a store into a new block of one type -/
structure TyC (Tb : TypeId) (w0 W W' : World) : Prop where
  chg : Chg (fun g => w0.heap.size ≤ g) W W'
  oth : ∀ (g : Nat) (o : Obj), W.heap[g]? = some o → (∀ cur fr, o ≠ Obj.cells cur Tb fr) → W'.heap[g]? = some o
/-- .. behind which Q holds of the block -/
structure TyQ (Tb : TypeId) (Q : Nat → World → Prop) (w0 W W' : World) : Prop where
  ty : TyC Tb w0 W W'
  row : ∀ (g : Nat) (cur : Array Value) (fr : Nat × Nat), W.heap[g]? = some (Obj.cells cur Tb fr) → W'.heap[g]? = W.heap[g]? ∨ Q g W'
theorem preTyQ {Tb : TypeId} {Q : Nat → World → Prop} {w0 : World} (hQ : ∀ g W W', Q g W → TyC Tb w0 W W' → W'.heap[g]? = W.heap[g]? → Q g W') (hT : ∀ g W, Q g W → ∃ cur fr, W.heap[g]? = some (Obj.cells cur Tb fr)) : Pre (TyQ Tb Q w0) :=
  ⟨fun h => ⟨⟨h.mono fun _ hf => hf.elim, fun g o ho _ => h.heap ho id⟩, fun g cur fr hg => .inl (h.block g (lt_of_heap hg) id)⟩,
   fun h k => ⟨⟨h.ty.chg.trans k.ty.chg, fun g o ho hn => k.ty.oth g o (h.ty.oth g o ho hn) hn⟩, fun g cur fr hg => by
    rcases h.row g cur fr hg with a | a
    · rcases k.row g cur fr (a.trans hg) with c | c
      · exact .inl (c.trans a)
      · exact .inr c
    · obtain ⟨cur', fr', h2⟩ := hT g _ a
      rcases k.row g cur' fr' h2 with c | c
      · exact .inr (hQ g _ _ a k.ty c)
      · exact .inr c⟩⟩
theorem TyQ.keeps {Tb : TypeId} {Q : Nat → World → Prop} {w0 : World} (hQ : ∀ g W W', Q g W → TyC Tb w0 W W' → W'.heap[g]? = W.heap[g]? → Q g W') (hT : ∀ g W, Q g W → ∃ cur fr, W.heap[g]? = some (Obj.cells cur Tb fr)) {g : Nat} {W W' : World} (h : Q g W) (k : TyQ Tb Q w0 W W') : Q g W' := by
  obtain ⟨cur, fr, h2⟩ := hT g W h
  exact (k.row g cur fr h2).elim (hQ g W W' h k.ty) id
theorem TyC.row {Tb el : TypeId} {w0 W W' : World} {base size n : Nat} {v : Value} {xs : List Value} (h : W.ownsRow base el size v n xs) (k : TyC Tb w0 W W') (hne : el ≠ Tb) : W'.ownsRow base el size v n xs := by
  refine ⟨h.1, h.2.imp id fun ⟨g, cap, cur, a1, a2, a3, a4⟩ => ⟨g, cap, cur, a1, a2, ?_, a4⟩⟩
  exact k.oth g _ a3 fun cur fr hh => by injection hh with _ h2; exact hne h2
section
variable {P : Program} {Γ : List (Nat × TI)}
/-- a store in whatever order, of which F is told -/
theorem stm {S : World → World → Prop} {e : Env} {w0 : World} {Dn : World → Prop} {op : Oper} {t : TypeId} {x y : Operand} {K : Value → DP → Prop} (F : World → Prop) (ho : op.op = .store t x y) (hst : ∀ W W', F W → S W W' → F W')
    (h : ∀ W, S w0 W → Dn W → St P t (ev e x) (ev e y) W fun W' => S W W' ∧ F W') (hk : ∀ D, (∀ W, D W → F W) → K undef D) : Mk S w0 Dn (op1 P Γ e op) K :=
  ⟨Unit, ⟨()⟩, fun _ => undef, fun _ W => F W, fun _ W W' => hst W W', fun W h1 h2 => by
    unfold op1
    rw [ho]
    simp only [isPure]
    obtain ⟨w', q1, q2, q3⟩ := h W h1 h2
    exact ⟨w', q1, q2, (), trivial, q3⟩, fun _ D hD => hk D hD⟩
/-- a new block, of which F is told -/
theorem als {t : TypeId} {ti : TI} {S : World → World → Prop} (hS : Pre S) {e : Env} {w0 : World} {Dn : World → Prop} {op : Oper} {K : Value → DP → Prop} (F : Nat → World → Prop) (ho : op.op = .alloc t) (hl : look Γ t = some ti) (hst : ∀ b W W', F b W → S W W' → F b W')
    (hF : ∀ b W W', S w0 W → W.heap.size ≤ b → Own W' b t (cellsL ti.zero) → F b W')
    (hk : ∀ b D, (∀ W, D W → F b W) → K (.pointer (some ⟨b, 0, none⟩)) D) : Mk S w0 Dn (op1 P Γ e op) K :=
  ⟨Nat, ⟨0⟩, fun b => .pointer (some ⟨b, 0, none⟩), F, fun b W W' => hst b W W', fun W h1 h2 => by
    unfold op1
    rw [ho]
    simp only [isPure, hl]
    exact nd fun b W' e1 e2 k m => ⟨hS.kp k, b, rfl, hF b W W' h1 (by rw [← e1]; exact Nat.le_refl _) m⟩, fun b D hD => hk b D hD⟩
end
/-! ### a region in which new blocks are told apart -/
section
variable {P : Program} {Γ : List (Nat × TI)} {n : Nat} {ds : List Deferred} {rd : Option Nat}
theorem drawnKd (hG : Agree P Γ) (hm : P.follows .mixedOrders = true) {id : Nat} {ops : Array Oper} (m : Nat) (ord : List Nat) (hreg : regOk ops.toList m ord = true) {K : Exit → Env → World → Prop} {e : Env} {w : World}
    (h : VCo P Γ Kp w ops.toList (masks ops.toList) (fun E Ds => ∀ W, Kp w W → (∀ j, getDs Ds j W) → Dist Γ ops.toList ord E → VCl P Γ ops.toList (K .normal) (ops.toList.drop m) E W) ord [] e) :
    Piece P n ds rd (.region id ops true) K e w :=
  drawnVg hG hm m ord hreg Kp (preChg _) (fun _ => True) 0 trivial (fun _ _ hq W h1 h2 h3 => hq W h1 h2 (h3 fun _ _ k => k.size)) (VCo_to hG _ _ _ h)
def alSlot (Γ : List (Nat × TI)) (p : Nat × Oper) : Option Nat := match p.2.guard, p.2.op with
  | none, .alloc t => if (look Γ t).isSome then p.2.dst else none
  | _, _ => none
def alSlots (Γ : List (Nat × TI)) (ops : List Oper) (ord : List Nat) : List Nat := (nodes ops ord).filterMap (alSlot Γ)
theorem alSlot_some {p : Nat × Oper} {s : Nat} (h : alSlot Γ p = some s) : isAl Γ p.2 ∧ p.2.dst = some s := by
  unfold alSlot at h
  split at h
  · rename_i t hg ho
    split at h
    · rename_i hl
      obtain ⟨ti, hti⟩ := Option.isSome_iff_exists.1 hl
      exact ⟨⟨hg, t, ti, ho, hti⟩, h⟩
    · cases h
  · cases h
theorem Dist.slots {ops : List Oper} {ord : List Nat} {E : Env} (h : Dist Γ ops ord E) : (alSlots Γ ops ord).Pairwise fun s t => E s ≠ E t := by
  unfold alSlots
  rw [List.pairwise_filterMap]
  refine h.imp fun {a b} hp s hs t ht => ?_
  obtain ⟨h1, h2⟩ := alSlot_some hs
  obtain ⟨h3, h4⟩ := alSlot_some ht
  exact hp h1 h3 s t h2 h4
end
end Go.Au

namespace Go.Au
open Go Go.RowKit

/-- a row of one's own, taken apart so that a part of it can be written over -/
theorem row_split {α : Type} {f : α → List Value} {size : Nat} (hf : ∀ x, (f x).length = size) {w : World} {base : Nat} {el : TypeId} {v : Value} {ys : List α} (h : w.ownsRow base el size v ys.length (ys.flatMap f)) {k : Nat} (hk : k < ys.length) :
    ∃ g cap rest, v = .slice (some ⟨g, 0, none⟩) ys.length cap ∧ base ≤ g ∧ Own w g el (ys.flatMap f ++ rest) ∧ ∀ (W : World) (zs : List α), zs.length = ys.length → Own W g el (zs.flatMap f ++ rest) → W.ownsRow base el size v ys.length (zs.flatMap f) := by
  rcases id h.2 with ⟨h0, h1⟩ | ⟨g, cap, cur, h0, hbase, hg, hncap, hcm, hcs, htk⟩
  · omega
  have hO : Own w g el (ys.flatMap f ++ cur.toList.drop (ys.length * size)) := by
    rw [← htk, List.take_append_drop]
    exact hg
  refine ⟨g, cap, _, h0, hbase, hO, fun W zs hz hW => ?_⟩
  have hcl : cur.toList.length = cap * size := by simpa using hcs
  have hle : ys.length * size ≤ cap * size := Nat.mul_le_mul_right _ hncap
  refine ⟨by rw [flat_len hf, hz], .inr ⟨g, cap, (zs.flatMap f ++ cur.toList.drop (ys.length * size)).toArray, h0, hbase, hW, hncap, hcm, ?_, ?_⟩⟩
  · simp only [List.size_toArray, List.length_append, flat_len hf, List.length_drop]
    rw [hz, hcl]; omega
  · show (zs.flatMap f ++ _).take (ys.length * size) = _
    rw [List.take_left' (by rw [flat_len hf, hz])]
theorem flat_range' {α : Type} {f : α → List Value} {size : Nat} (hf : ∀ x, (f x).length = size) {w : World} {g : Nat} {el : TypeId} {ys : List α} {rest : List Value} {k : Nat} {x : α} (hx : ys[k]? = some x) (h : Own w g el (ys.flatMap f ++ rest)) : w.rangeAt g (0 + k * size) (f x) := by
  exact flat_range hf hx (Own.all h)
section
variable {P : Program} {Γ : List (Nat × TI)} {base size n : Nat} {v : Value} {xs : List Value} {t el : TypeId} {ti tj : TI}
/-- an append of nothing, in whatever order -/
theorem apn (hG : Agree P Γ) {w0 : World} {e : Env} {Dn : World → Prop} {op : Oper} {s x : Operand} {K : Value → DP → Prop} (ho : op.op = .call { callee := .builtin .append, args := #[s, x], argTypes := #[t, t] }) (hs : ev e s = v) (hx : ev e x = .slice none 0 0)
    (hl : look Γ t = some ti) (hd : ti.desc = .slice el) (hj : look Γ el = some tj) (hown : w0.ownsRow base el size v n xs) (hk : ∀ D, K v D) : Mk Kp w0 Dn (op1 P Γ e op) K :=
  ⟨Unit, ⟨()⟩, fun _ => v, fun _ _ => True, fun _ _ _ _ _ => trivial, fun W h1 h2 => by
    have hrun := run_app0 (c := 0) hG hl hd hj (ownsRow_chg hown h1 fun _ _ => id) op.type
    unfold op1
    rw [ho]
    simp only [isPure]
    refine ⟨v, W, ?_, Chg.refl _ _, (), rfl, trivial⟩
    unfold execOp
    simp only [ho, resolve, invoke, builtin, Sem.run_bind, Sem.run_pure, Result.andThen_ok, List.map_toArray, List.map_cons, List.map_nil, hs, hx, hrun], fun _ D _ => hk D⟩
end
/-- all of a row of one's own, as a range -/
theorem row_range {w : World} {base size n : Nat} {el : TypeId} {v : Value} {xs : List Value} (h : w.ownsRow base el size v n xs) : (v = .slice none 0 0 ∧ n = 0 ∧ xs = []) ∨ ∃ g cap, v = .slice (some ⟨g, 0, none⟩) n cap ∧ w.rangeAt g 0 xs := by
  rcases id h.2 with ⟨h0, h1⟩ | ⟨g, cap, cur, h0, hbase, hg, hncap, hcm, hcs, htk⟩
  · subst h1
    refine .inl ⟨h0, rfl, ?_⟩
    have := h.1
    exact List.eq_nil_of_length_eq_zero (by simpa using this)
  · refine .inr ⟨g, cap, h0, ?_⟩
    have hg : Own w g el cur.toList := hg
    refine Own.at_ (o := 0) hg ?_
    rw [List.drop_zero, h.1]
    exact htk
end Go.Au

namespace Go.Au
open Go Go.RowKit

def int (x : Int) : Value := .int .i64 x
abbrev Ints := RowE (fun _ cs (x : Int) => cs = [.int .i64 x]) 1

def risingFrom (n : Int) : Option Int → List Int → Bool
  | _, [] => true
  | p, x :: r => !(decide (x < 0) || decide (n ≤ x) || (match p with | some y => decide (x ≤ y) | none => false)) && risingFrom n (some x) r

theorem isRow_c {w : World} {lo hi : Nat} {v : Value} {xs : List Int} {n : Int} (h : Ints lo hi w v xs) (hl : xs.length < 4611686018427387904) :
    Calls Proofs.Try.prog 51 [v, .int .i64 n].toArray w (Ret fun r w' => r = .bool (risingFrom n none xs) ∧ Kp w w') := by
  obtain ⟨a, cap, rfl, hcap, hx⟩ := h
  refine call agree Proofs.Try.func51 rfl Proofs.Try.ntmps51 (by kernel_rfl) ?_
  refine loop agree (σ := Nat) (fun i => [(0, .slice a xs.length cap), (1, .int .i64 n), (7, .slice a xs.length cap), (8, .int .i64 xs.length), (9, .int .i64 i)])
    (fun i w' => Kp w w' ∧ i ≤ xs.length ∧ risingFrom n none xs = risingFrom n (if i = 0 then none else xs[i-1]?) (xs.drop i)) (fun i => xs.length - i) 0
    ⟨rfl, rfl, rfl, rfl, rfl, trivial⟩ ⟨Chg.refl _ _, by omega, by simp⟩ ?_
  rintro i e0 w1 ⟨hk, hi, hr⟩
  refine sp (fun h1 => ?_) (fun h1 => ?_)
  · obtain ⟨b, o, rfl, hlo, hhi, cs, hcs, hrd, rfl⟩ := hx i xs[i] (by simp)
    refine ne ⟨by omega, h1⟩ ?_
    refine ld agree (hk.range hrd id) rfl ?_
    have hi' : i < xs.length := by omega
    rw [List.drop_eq_getElem_cons hi'] at hr
    refine sp (fun h2 => ?_) (fun h2 => ?_)
    · exact ⟨congrArg Value.bool (by rw [hr]; simp [risingFrom, h2]), hk⟩
    · refine sp (fun h3 => ?_) (fun h3 => ?_)
      · exact ⟨congrArg Value.bool (by rw [hr]; simp [risingFrom, h3]), hk⟩
      · refine sp (fun h4 => ?_) (fun h4 => ?_)
        · refine aw (by omega) (by omega) ?_
          obtain ⟨b', o', hb', -, -, cs', hcs', hrd', rfl⟩ := hx (i - 1) xs[i-1] (by simp)
          cases hb'
          refine ne ⟨by omega, by omega⟩ ?_
          refine ld agree (o := o + ((i : Int) - 1).toNat * 1) (hk.range (by rw [show ((i : Int) - 1).toNat = i - 1 by omega]; exact hrd') id) rfl ?_
          have h0 : i ≠ 0 := by omega
          rw [if_neg h0, List.getElem?_eq_getElem (by omega)] at hr
          refine sp (fun h5 => ?_) (fun h5 => ?_)
          · exact ⟨congrArg Value.bool (by rw [hr]; simp [risingFrom, h5]), hk⟩
          · refine aw (by omega) (by omega) ?_
            refine again (i + 1) ⟨rfl, rfl, rfl, rfl, rfl, trivial⟩ ⟨hk, by omega, ?_⟩ (by omega)
            rw [hr]; simp [risingFrom, h2, h3, h5, List.getElem?_eq_getElem hi']
        · refine aw (by omega) (by omega) ?_
          refine again (i + 1) ⟨rfl, rfl, rfl, rfl, rfl, trivial⟩ ⟨hk, by omega, ?_⟩ (by omega)
          have h0 : i = 0 := by omega
          subst h0
          rw [hr]; simp [risingFrom, h2, h3, List.getElem?_eq_getElem hi']
  · refine ⟨congrArg Value.bool (by rw [hr, List.drop_eq_nil_of_le (by omega)]; rfl), hk⟩
end Go.Au

namespace Go.Au
open Go Go.RowKit Go.MapKept
open Go.Maps (Keyed)

abbrev Strs := RowE (fun _ cs (x : ByteArray) => cs = [.string x]) 1
def badByte (c : UInt8) : Bool := decide ((c.toNat : Int) < 32) || decide (126 < (c.toNat : Int)) || decide ((c.toNat : Int) = 34) || decide ((c.toNat : Int) = 92)
def nameOk (s : ByteArray) : Bool := decide (1 ≤ s.size) && decide (s.size ≤ 32) && s.data.toList.all fun c => !badByte c
def namesOk (l : List ByteArray) : Bool := decide l.Nodup && l.all nameOk && decide (l.length ≤ 8)

theorem strKeyed : Keyed Proofs.Try.prog 9 := Maps.string_keyed Proofs.Try.underlying9
theorem strKey {s : ByteArray} (h : s.size ≤ 32) : ∃ lit, keyOf Proofs.Try.prog 9 (.string s) = some lit := ⟨_, WideMaps.keyOf_string_mk Proofs.Try.underlying9 (by simp only [maxLen]; omega)⟩

theorem alook_ones {l : List ByteArray} {s : ByteArray} (h : s ∈ l) : alook (l.map fun s => (s, (1 : Int))) s = some 1 := by
  induction l with
  | nil => simp at h
  | cons a r ih =>
    simp only [List.map_cons, alook]
    by_cases h' : a = s
    · rw [if_pos h']
    · rw [if_neg h', ih ((List.mem_cons.1 h).resolve_left (Ne.symm h'))]
theorem alook_zeros {l : List ByteArray} {s : ByteArray} (h : s ∉ l) : alook (l.map fun s => (s, (1 : Int))) s = none :=
  alook_none fun p hp he => by
    obtain ⟨x, hx, rfl⟩ := List.mem_map.1 hp
    exact h (he ▸ hx)

theorem isNames_c {w : World} {lo hi : Nat} {v : Value} {l : List ByteArray} (h : Strs lo hi w v l) (hl : l.length < 4611686018427387904) :
    Calls Proofs.Try.prog 50 [v].toArray w (Ret fun r w' => r = .bool (namesOk l) ∧ Kp w w') := by
  obtain ⟨a, cap, rfl, hcap, hx⟩ := h
  refine call agree Proofs.Try.func50 rfl Proofs.Try.ntmps50 (by kernel_rfl) ?_
  refine nd fun m w1 e1 e2 k1 hm => ?_
  refine loop agree (σ := Nat) (fun i => [(0, .slice a l.length cap), (3, .map (some m)), (8, .slice a l.length cap), (9, .int .i64 l.length), (10, .int .i64 i)])
    (fun i w' => Chg (fun b => b = m) w1 w' ∧ i ≤ l.length ∧ (l.take i).Nodup ∧ (l.take i).all nameOk = true ∧ MapE Proofs.Try.prog 9 (fun s => .string s) (fun n : Int => .int .i64 n) w' m ((l.take i).map fun s => (s, (1 : Int)))) (fun i => l.length - i) 0
    ⟨rfl, rfl, rfl, rfl, rfl, trivial⟩ ⟨Chg.refl _ _, by omega, by simp, by simp, MapE.made hm fun x y h => by injection h⟩ ?_
  rintro i e0 w2 ⟨hk, hi, hnd, hall, hme⟩
  have hkp : Kp w w2 := ⟨hk.os.trans k1.os, hk.tape.trans k1.tape, Nat.le_trans k1.drawn hk.drawn, hk.output.trans k1.output, Nat.le_trans k1.size hk.size, fun b hb _ => (hk.block b (by have := k1.size; omega) (by omega)).trans (k1.block b hb id)⟩
  refine sp (fun h1 => ?_) (fun h1 => ?_)
  · have hi' : i < l.length := by omega
    obtain ⟨b, o, rfl, -, hhi, cs, hcs, hrd, rfl⟩ := hx i l[i] (by simp)
    have htk : l.take (i + 1) = l.take i ++ [l[i]] := by simp
    refine ne ⟨by omega, h1⟩ ?_
    refine ld agree (hkp.range hrd id) rfl ?_
    have bad : nameOk l[i] = false → namesOk l = false := fun hb => by
      simp only [namesOk, Bool.and_eq_false_iff]
      refine .inl (.inr ?_)
      rw [List.all_eq_false]
      exact ⟨l[i], by simp, by simp [hb]⟩
    refine sp (fun h2 => ?_) (fun h2 => ?_)
    · exact ⟨congrArg Value.bool (bad (by simp only [nameOk]; rw [decide_eq_false (by omega)]; rfl)).symm, hkp⟩
    · refine sp (fun h3 => ?_) (fun h3 => ?_)
      · exact ⟨congrArg Value.bool (bad (by simp only [nameOk]; rw [decide_eq_false (p := l[i].size ≤ 32) (by omega)]; simp)).symm, hkp⟩
      · have hlk := MapE.lookup agree strKeyed (t := 120) rfl rfl rfl hme l[i] (strKey (by omega)) false
        by_cases hin : l[i] ∈ l.take i
        · rw [alook_ones hin] at hlk
          refine lk hlk ?_
          refine spT (by decide) ?_
          refine ⟨congrArg Value.bool ?_, hkp⟩
          simp only [namesOk]
          rw [decide_eq_false]
          · rfl
          · intro hn
            have hn' : (l.take (i + 1)).Nodup := hn.sublist (List.take_sublist _ _)
            rw [htk, List.nodup_append] at hn'
            exact hn'.2.2 _ hin _ (by simp) rfl
        · rw [alook_zeros hin] at hlk
          refine lk hlk ?_
          refine spF (by decide) ?_
          refine lk hlk ?_
          refine ar ?_
          refine mu (MapE.update agree strKeyed (t := 120) rfl rfl hme l[i] 1 (strKey (by omega))) ?_
          rintro w3 ⟨hme3, hs3, hc3⟩
          rw [aput_new (fun p hp he => by
            obtain ⟨s, hs, rfl⟩ := List.mem_map.1 hp
            exact hin (he ▸ hs)), show (l.take i).map (fun s => (s, (1 : Int))) ++ [(l[i], 1)] = (l.take (i + 1)).map fun s => (s, (1 : Int)) by rw [htk, List.map_append]; rfl] at hme3
          have hk3 := hk.trans hc3
          have hkp3 : Kp w w3 := ⟨hc3.os.trans hkp.os, hc3.tape.trans hkp.tape, Nat.le_trans hkp.drawn hc3.drawn, hc3.output.trans hkp.output, Nat.le_trans hkp.size hc3.size, fun b hb _ => (hc3.block b (by have := hkp.size; omega) (by omega)).trans (hkp.block b hb id)⟩
          refine loop agree (σ := Nat) (fun j => [(0, .slice (some ⟨b, o, none⟩) l.length cap), (3, .map (some m)), (5, .string l[i]), (8, .slice (some ⟨b, o, none⟩) l.length cap), (9, .int .i64 l.length), (10, .int .i64 i), (33, .int .i64 l[i].size), (34, .int .i64 j)])
            (fun j w' => w' = w3 ∧ j ≤ l[i].size ∧ (l[i].data.toList.take j).all (fun c => !badByte c) = true) (fun j => l[i].size - j) 0 ⟨rfl, rfl, rfl, rfl, rfl, rfl, rfl, rfl, trivial⟩ ⟨rfl, by omega, by simp⟩ ?_
          rintro j e1 w4 ⟨rfl, hj, hja⟩
          refine sp (fun h4 => ?_) (fun h4 => ?_)
          · have hj' : j < l[i].size := by omega
            have hjt : l[i].data.toList.take (j + 1) = l[i].data.toList.take j ++ [l[i][j]] := by
              rw [List.take_succ_eq_append_getElem (by simpa using hj')]
              rfl
            have badb : badByte l[i][j] = true → namesOk l = false := fun hb => bad (by
              simp only [nameOk, Bool.and_eq_false_iff]
              refine .inr ?_
              rw [List.all_eq_false]
              exact ⟨l[i][j], by
                have : l[i][j] ∈ l[i].data.toList.take (j + 1) := by rw [hjt]; simp
                exact List.mem_of_mem_take this, by simp [hb]⟩)
            refine ixS agree rfl rfl rfl rfl hj' ?_
            refine sp (fun h5 => ?_) (fun h5 => ?_)
            · exact ⟨congrArg Value.bool (badb (by simp [badByte, h5])).symm, hkp3⟩
            refine ixS agree rfl rfl rfl rfl hj' ?_
            refine sp (fun h6 => ?_) (fun h6 => ?_)
            · exact ⟨congrArg Value.bool (badb (by simp [badByte, h6])).symm, hkp3⟩
            refine ixS agree rfl rfl rfl rfl hj' ?_
            refine sp (fun h7 => ?_) (fun h7 => ?_)
            · exact ⟨congrArg Value.bool (badb (by simp [badByte, h7])).symm, hkp3⟩
            refine ixS agree rfl rfl rfl rfl hj' ?_
            refine sp (fun h8 => ?_) (fun h8 => ?_)
            · exact ⟨congrArg Value.bool (badb (by simp [badByte, h8])).symm, hkp3⟩
            refine aw (by omega) (by omega) ?_
            refine again (j + 1) ⟨rfl, rfl, rfl, rfl, rfl, rfl, rfl, rfl, trivial⟩ ⟨rfl, by omega, ?_⟩ (by omega)
            rw [hjt, List.all_append, hja]
            simp [badByte, h5, h6, h7, h8]
          · refine aw (by omega) (by omega) ?_
            refine again (i + 1) ⟨rfl, rfl, rfl, rfl, rfl, trivial⟩ ⟨hk3, by omega, ?_, ?_, hme3⟩ (by omega)
            · rw [htk, List.nodup_append]
              refine ⟨hnd, by simp, fun x hx y hy he => ?_⟩
              simp at hy
              exact hin (hy ▸ he ▸ hx)
            · rw [htk, List.all_append, hall]
              have : l[i].data.toList.take j = l[i].data.toList := List.take_of_length_le (by
                have : l[i].data.toList.length = l[i].size := Array.length_toList
                omega)
              rw [this] at hja
              simp only [List.all_cons, List.all_nil, Bool.and_true, Bool.true_and, nameOk, hja]
              rw [decide_eq_true (by omega), decide_eq_true (by omega)]
              rfl
  · have : l.take i = l := List.take_of_length_le (by omega)
    rw [this] at hnd hall
    refine sp (fun h2 => ?_) (fun h2 => ?_)
    · exact ⟨congrArg Value.bool (by unfold namesOk; rw [hall, decide_eq_true hnd, decide_eq_true (by omega)]; rfl), hkp⟩
    · exact ⟨congrArg Value.bool (by unfold namesOk; rw [hall, decide_eq_true hnd, decide_eq_false (by omega)]; rfl), hkp⟩
end Go.Au

namespace Go.Au
open Go Go.RowKit Go.MapKept
open Go.Maps (Keyed)

theorem mixed : Proofs.Try.prog.follows .mixedOrders = true := by kernel_rfl
def cmp3 (a b : Int) : Int := if a < b then -1 else if b < a then 1 else 0
def firstOf : List Int → Int
  | [] => 0
  | x :: r => if x = 0 then firstOf r else x

theorem isNaNi_c (w : World) (x : Int) : Calls Proofs.Try.prog 124 [.int .i64 x].toArray w (Ret fun r w' => r = .bool false ∧ Kp w w') := by
  refine call agree Proofs.Try.func124 rfl Proofs.Try.ntmps124 (by kernel_rfl) ?_
  exact spF (fun h => h rfl) ⟨rfl, Chg.refl _ _⟩
theorem isNaNu_c (w : World) (x : Int) : Calls Proofs.Try.prog 125 [.int .u16 x].toArray w (Ret fun r w' => r = .bool false ∧ Kp w w') := by
  refine call agree Proofs.Try.func125 rfl Proofs.Try.ntmps125 (by kernel_rfl) ?_
  exact spF (fun h => h rfl) ⟨rfl, Chg.refl _ _⟩
theorem callNaNi : callable Proofs.Try.prog 124 = true := by kernel_rfl
theorem callNaNu : callable Proofs.Try.prog 125 = true := by kernel_rfl

theorem compi_c (w : World) (a b : Int) : Calls Proofs.Try.prog 96 [.int .i64 a, .int .i64 b].toArray w (Ret fun r w' => r = .int .i64 (cmp3 a b) ∧ Kp w w') := by
  refine call agree Proofs.Try.func96 rfl Proofs.Try.ntmps96 (by kernel_rfl) ?_
  refine cl callNaNi (isNaNi_c w a) ?_
  rintro _ w1 ⟨rfl, k1⟩
  refine cl callNaNi (isNaNi_c w1 b) ?_
  rintro _ w2 ⟨rfl, k2⟩
  refine sp (fun h => ?_) (fun h => ?_)
  · exact ⟨congrArg (Value.int .i64) (by simp [cmp3, h]), k1.trans k2⟩
  · refine sp (fun h2 => ?_) (fun h2 => ?_)
    · exact ⟨congrArg (Value.int .i64) (by simp [cmp3, h, h2]), k1.trans k2⟩
    · exact ⟨congrArg (Value.int .i64) (by simp [cmp3, h, h2]), k1.trans k2⟩
theorem compu_c (w : World) (a b : Int) : Calls Proofs.Try.prog 97 [.int .u16 a, .int .u16 b].toArray w (Ret fun r w' => r = .int .i64 (cmp3 a b) ∧ Kp w w') := by
  refine call agree Proofs.Try.func97 rfl Proofs.Try.ntmps97 (by kernel_rfl) ?_
  refine cl callNaNu (isNaNu_c w a) ?_
  rintro _ w1 ⟨rfl, k1⟩
  refine cl callNaNu (isNaNu_c w1 b) ?_
  rintro _ w2 ⟨rfl, k2⟩
  refine sp (fun h => ?_) (fun h => ?_)
  · exact ⟨congrArg (Value.int .i64) (by simp [cmp3, h]), k1.trans k2⟩
  · refine sp (fun h2 => ?_) (fun h2 => ?_)
    · exact ⟨congrArg (Value.int .i64) (by simp [cmp3, h, h2]), k1.trans k2⟩
    · exact ⟨congrArg (Value.int .i64) (by simp [cmp3, h, h2]), k1.trans k2⟩
theorem callCompi : callable Proofs.Try.prog 96 = true := by kernel_rfl
theorem callCompu : callable Proofs.Try.prog 97 = true := by kernel_rfl

theorem or_c {w : World} {lo hi : Nat} {v : Value} {xs : List Int} (h : Ints lo hi w v xs) (hl : xs.length < 4611686018427387904) :
    Calls Proofs.Try.prog 95 [v].toArray w (Ret fun r w' => r = .int .i64 (firstOf xs) ∧ Kp w w') := by
  obtain ⟨a, cap, rfl, hcap, hx⟩ := h
  refine call agree Proofs.Try.func95 rfl Proofs.Try.ntmps95 (by kernel_rfl) ?_
  refine loop agree (σ := Nat) (fun i => [(3, .int .i64 0), (6, .slice a xs.length cap), (7, .int .i64 xs.length), (8, .int .i64 i)])
    (fun i w' => Kp w w' ∧ i ≤ xs.length ∧ firstOf xs = firstOf (xs.drop i)) (fun i => xs.length - i) 0
    ⟨rfl, rfl, rfl, rfl, trivial⟩ ⟨Chg.refl _ _, by omega, by simp⟩ ?_
  rintro i e0 w1 ⟨hk, hi, hr⟩
  refine sp (fun h1 => ?_) (fun h1 => ?_)
  · obtain ⟨b, o, rfl, hlo, hhi, cs, hcs, hrd, rfl⟩ := hx i xs[i] (by simp)
    refine ne ⟨by omega, h1⟩ ?_
    refine ld agree (hk.range hrd id) rfl ?_
    have hi' : i < xs.length := by omega
    rw [List.drop_eq_getElem_cons hi'] at hr
    refine sp (fun h2 => ?_) (fun h2 => ?_)
    · exact ⟨congrArg (Value.int .i64) (by rw [hr]; simp [firstOf, h2]), hk⟩
    · refine aw (by omega) (by omega) ?_
      refine again (i + 1) ⟨rfl, rfl, rfl, rfl, trivial⟩ ⟨hk, by omega, ?_⟩ (by omega)
      rw [hr]; simp only [firstOf]; rw [if_pos (by omega)]
  · exact ⟨congrArg (Value.int .i64) (by rw [hr, List.drop_eq_nil_of_le (by omega)]; rfl), hk⟩
theorem callOr : callable Proofs.Try.prog 95 = true := by kernel_rfl

structure Edge where
  frm : Int
  to : Int
  must : Int
  no : Int
  deriving DecidableEq
def Edge.cells (e : Edge) : List Value := [.int .i64 e.frm, .int .i64 e.to, .int .u16 e.must, .int .u16 e.no]
def Edge.val (e : Edge) : Value := .agg #[.int .i64 e.frm, .int .i64 e.to, .int .u16 e.must, .int .u16 e.no]
def orderS (a b : Edge) : Int := firstOf [cmp3 a.frm b.frm, cmp3 a.to b.to, cmp3 a.must b.must, cmp3 a.no b.no]

theorem order_c (w : World) (a b : Edge) : Calls Proofs.Try.prog 52 [a.val, b.val].toArray w (Ret fun r w' => r = .int .i64 (orderS a b) ∧ Kp w w') := by
  refine call agree Proofs.Try.func52 rfl Proofs.Try.ntmps52 (by kernel_rfl) ?_
  refine nd fun p w1 e1 s1 k1 m1 => ?_
  refine nd fun q w2 e2 s2 k2 m2 => ?_
  refine drawn0 agree mixed 23 (by kernel_rfl) (fun _ => False) ?_
  have A : ∀ W, Kp w2 W → Own W p 52 a.cells := fun W h => h.heap (k2.heap m1 id) id
  have B : ∀ W, Kp w2 W → Own W q 52 b.cells := fun W h => h.heap m2 id
  conv => whnf
  refine ldk agree rfl rfl (fun W h _ => Own.at_ (xs := [.int .i64 a.frm]) (A W h) rfl) (by rfl) fun _ => ?_
  conv => whnf
  refine ldk agree rfl rfl (fun W h _ => Own.at_ (xs := [.int .i64 b.frm]) (B W h) rfl) (by rfl) fun _ => ?_
  conv => whnf
  refine callk rfl rfl rfl callCompi (fun W _ _ => compi_c W a.frm b.frm) fun _ => ?_
  conv => whnf
  refine ldk agree rfl rfl (fun W h _ => Own.at_ (xs := [.int .i64 a.to]) (A W h) rfl) (by rfl) fun _ => ?_
  conv => whnf
  refine ldk agree rfl rfl (fun W h _ => Own.at_ (xs := [.int .i64 b.to]) (B W h) rfl) (by rfl) fun _ => ?_
  conv => whnf
  refine callk rfl rfl rfl callCompi (fun W _ _ => compi_c W a.to b.to) fun _ => ?_
  conv => whnf
  refine ldk agree rfl rfl (fun W h _ => Own.at_ (xs := [.int .u16 a.must]) (A W h) rfl) (by rfl) fun _ => ?_
  conv => whnf
  refine ldk agree rfl rfl (fun W h _ => Own.at_ (xs := [.int .u16 b.must]) (B W h) rfl) (by rfl) fun _ => ?_
  conv => whnf
  refine callk rfl rfl rfl callCompu (fun W _ _ => compu_c W a.must b.must) fun _ => ?_
  conv => whnf
  refine ldk agree rfl rfl (fun W h _ => Own.at_ (xs := [.int .u16 a.no]) (A W h) rfl) (by rfl) fun _ => ?_
  conv => whnf
  refine ldk agree rfl rfl (fun W h _ => Own.at_ (xs := [.int .u16 b.no]) (B W h) rfl) (by rfl) fun _ => ?_
  conv => whnf
  refine callk rfl rfl rfl callCompu (fun W _ _ => compu_c W a.no b.no) fun _ => ?_
  conv => whnf
  refine bsk rfl rfl rfl rfl (by rfl) (by decide) fun q' D hD => ?_
  conv => whnf
  refine callk rfl rfl rfl callOr (fun W h1 h2 => or_c (xs := [cmp3 a.frm b.frm, cmp3 a.to b.to, cmp3 a.must b.must, cmp3 a.no b.no]) (lo := q') (hi := q' + 1) (row1 (hD W (h2 20 (by kernel_rfl))).1 rfl rfl (by decide) (by omega) (by omega)) (by simp)) fun D2 => ?_
  conv => whnf
  exact fun W h _ => ⟨rfl, k1.trans (k2.trans h)⟩
theorem callOrder : callable Proofs.Try.prog 52 = true := by kernel_rfl
end Go.Au

namespace Go.Au
open Go Go.RowKit Go.MapKept
open Go.Maps (Keyed)

def goesS (e : Edge) (l : Int) : Bool := decide (bits .and .u16 l e.must = e.must) && decide (bits .and .u16 l e.no = 0)
theorem goes_c (w : World) (a : Edge) (l : Int) : Calls Proofs.Try.prog 75 [a.val, .int .u16 l].toArray w (Ret fun r w' => r = .bool (goesS a l) ∧ Kp w w') := by
  refine call agree Proofs.Try.func75 rfl Proofs.Try.ntmps75 (by kernel_rfl) ?_
  refine nd fun p w1 e1 s1 k1 m1 => ?_
  have m1 : Own w1 p 52 a.cells := m1
  refine ld agree (Own.at_ (xs := [.int .u16 a.must]) m1 rfl) (by rfl) ?_
  refine ar ?_
  refine ld agree (Own.at_ (xs := [.int .u16 a.must]) m1 rfl) (by rfl) ?_
  refine sp (fun h => ?_) (fun h => ?_)
  · refine ld agree (Own.at_ (xs := [.int .u16 a.no]) m1 rfl) (by rfl) ?_
    refine ar ?_
    refine sp (fun h2 => ?_) (fun h2 => ?_)
    · exact ⟨congrArg Value.bool (by simp [goesS, h, h2]), k1⟩
    · exact ⟨congrArg Value.bool (by simp [goesS, h, h2]), k1⟩
  · exact ⟨congrArg Value.bool (by simp [goesS, h]), k1⟩
theorem callGoes : callable Proofs.Try.prog 75 = true := by kernel_rfl

def Edge.wf (e : Edge) : Prop := 0 ≤ e.must ∧ e.must < 65536 ∧ 0 ≤ e.no ∧ e.no < 65536
abbrev Edges := RowE (fun _ cs (x : Edge) => cs = x.cells ∧ x.wf) 4
abbrev IntRows (lo hi : Nat) := RowE (fun w cs (xs : List Int) => ∃ u, cs = [u] ∧ Ints lo hi w u xs ∧ xs.length < 4611686018427387904) 1 lo hi

structure General where
  props : List ByteArray
  states : Int
  init : List Int
  edges : List Edge
  sets : List (List Int)
structure Buchi where
  props : List ByteArray
  states : Int
  init : List Int
  edges : List Edge
  final : List Int

structure GenV (lo hi : Nat) (w : World) (p i e s : Value) (g : General) : Prop where
  props : Strs lo hi w p g.props
  init : Ints lo hi w i g.init
  edges : Edges lo hi w e g.edges
  sets : IntRows lo hi w s g.sets
  lp : g.props.length < 4611686018427387904
  li : g.init.length < 4611686018427387904
  le : g.edges.length < 4611686018427387904
  ls : g.sets.length < 4611686018427387904

def edgesGo (n : Int) (letters : Int) : Option Edge → List Edge → Bool
  | _, [] => true
  | p, x :: r => risingFrom n none [x.frm] && (risingFrom n none [x.to] && (!decide (letters ≤ x.must) && (!decide (letters ≤ x.no) && (!decide (bits .and .u16 x.must x.no ≠ 0) && (!(match p with | some y => decide (0 ≤ orderS y x) | none => false) && edgesGo n letters (some x) r)))))

def checkS (g : General) : Bool := namesOk g.props && !decide (g.states < 0) && !decide (65536 < g.states) && risingFrom g.states none g.init && edgesGo g.states (2 ^ g.props.length) none g.edges && g.sets.all (risingFrom g.states none)
def errS (b : Bool) : Int := if b then 0 else 100

theorem callNames : callable Proofs.Try.prog 50 = true := by kernel_rfl
theorem callIsRow : callable Proofs.Try.prog 51 = true := by kernel_rfl

set_option maxHeartbeats 4000000 in
theorem check_c {w : World} {lo hi : Nat} {pv iv ev sv : Value} {g : General} (hv : GenV lo hi w pv iv ev sv g) :
    Calls Proofs.Try.prog 13 [.agg #[pv, .int .i64 g.states, iv, ev, sv]].toArray w (Ret fun r w' => r = .int .i64 (errS (checkS g)) ∧ Kp w w') := by
  refine call agree Proofs.Try.func13 rfl Proofs.Try.ntmps13 (by kernel_rfl) ?_
  refine nd fun p w1 e1 s1 k1 m1 => ?_
  have m1 : Own w1 p 28 [pv, .int .i64 g.states, iv, ev, sv] := m1
  have ret0 : ∀ W, Kp w1 W → checkS g = false → (Value.int .i64 100 = .int .i64 (errS (checkS g)) ∧ Kp w W) := fun W h hf => ⟨by rw [hf]; rfl, k1.trans h⟩
  have rowc : ∀ W u xs, Kp w1 W → Ints lo hi w u xs → xs.length < 4611686018427387904 → ∀ b, risingFrom g.states none xs = b → Calls Proofs.Try.prog 51 [u, .int .i64 g.states].toArray W (Ret fun r w' => r = .bool b ∧ Kp W w') := fun W u xs h hu hl b hb => by
    subst hb
    exact isRow_c (hu.chg (k1.trans h) (fun _ _ _ h => h) (fun _ _ h => h)) hl
  refine ld agree (Own.at_ (xs := [pv]) m1 rfl) (by rfl) ?_
  cases hnm : namesOk g.props with
  | false =>
    refine cl (R := fun r w' => r = .bool false ∧ Kp w1 w') callNames (by have := isNames_c (hv.props.chg k1 (fun _ _ _ h => h) (fun _ _ h => h)) hv.lp; rw [hnm] at this; exact this) ?_
    rintro _ w2 ⟨rfl, k2⟩
    exact ret0 _ k2 (by simp [checkS, hnm])
  | true =>
  refine cl (R := fun r w' => r = .bool true ∧ Kp w1 w') callNames (by have := isNames_c (hv.props.chg k1 (fun _ _ _ h => h) (fun _ _ h => h)) hv.lp; rw [hnm] at this; exact this) ?_
  rintro _ w2 ⟨rfl, k2⟩
  have hlp : g.props.length ≤ 8 := by
    unfold namesOk at hnm
    rw [Bool.and_eq_true] at hnm
    exact of_decide_eq_true hnm.2
  refine ld agree (Own.at_ (xs := [.int .i64 g.states]) (k2.own m1 id) rfl) (by rfl) ?_
  refine sp (fun h1 => ?_) (fun h1 => ?_)
  · exact ret0 _ k2 (by simp [checkS, h1])
  refine ld agree (Own.at_ (xs := [.int .i64 g.states]) (k2.own m1 id) rfl) (by rfl) ?_
  refine sp (fun h2 => ?_) (fun h2 => ?_)
  · exact ret0 _ k2 (by simp [checkS, h2])
  refine ld agree (Own.at_ (xs := [iv]) (k2.own m1 id) rfl) (by rfl) ?_
  refine ld agree (Own.at_ (xs := [.int .i64 g.states]) (k2.own m1 id) rfl) (by rfl) ?_
  cases hin : risingFrom g.states none g.init with
  | false =>
    refine cl callIsRow (rowc w2 iv g.init k2 hv.init hv.li _ hin) ?_
    rintro _ w3 ⟨rfl, k3⟩
    exact ret0 _ (k2.trans k3) (by simp [checkS, hin])
  | true =>
  refine cl callIsRow (rowc w2 iv g.init k2 hv.init hv.li _ hin) ?_
  rintro _ w3 ⟨rfl, k3⟩
  replace k3 := k2.trans k3
  obtain ⟨pa, pc, rfl, hpc, hprops⟩ := hv.props
  refine ld agree (Own.at_ (xs := [.slice pa g.props.length pc]) (k3.own m1 id) rfl) (by rfl) ?_
  refine ne (by omega) ?_
  have hp2 : (1 : Int) * 2 ^ (min ((g.props.length : Int)).toNat (IntKind.bits .i64)) = 2 ^ g.props.length := by
    rw [Int.toNat_natCast, Nat.min_eq_left (by simp only [IntKind.bits]; omega), Int.one_mul]
  have hb2 : (2 : Int) ^ g.props.length ≤ 256 := by
    have h : (2 : Nat) ^ g.props.length ≤ 2 ^ 8 := Nat.pow_le_pow_right (by decide) hlp
    have := Int.ofNat_le.2 h
    rw [Int.natCast_pow] at this
    exact this
  have hb1 : (1 : Int) ≤ 2 ^ g.props.length := by
    have h : 1 ≤ (2 : Nat) ^ g.props.length := Nat.one_le_two_pow
    have := Int.ofNat_le.2 h
    rw [Int.natCast_pow] at this
    exact this
  refine aw (by rw [hp2]; omega) (by rw [hp2]; omega) ?_
  generalize hL : (1 : Int) * 2 ^ (min ((g.props.length : Int)).toNat (IntKind.bits .i64)) = L
  rw [hp2] at hL
  have hck : checkS g = (edgesGo g.states L none g.edges && g.sets.all (risingFrom g.states none)) := by
    simp [checkS, hnm, h1, h2, hin, hL]
  clear hL
  have hle := hv.le
  have hls := hv.ls
  obtain ⟨ea, ec, rfl, hec, hedges⟩ := hv.edges
  obtain ⟨sa, sc, rfl, hsc, hsets⟩ := hv.sets
  refine ld agree (Own.at_ (xs := [.slice ea g.edges.length ec]) (k3.own m1 id) rfl) (by rfl) ?_
  refine loop agree (σ := Nat) (fun i => [(1, pt p 0), (3, .int .i64 L), (35, .slice ea g.edges.length ec), (36, .int .i64 g.edges.length), (37, .int .i64 i)])
    (fun i w' => Kp w1 w' ∧ i ≤ g.edges.length ∧ edgesGo g.states L none g.edges = edgesGo g.states L (if i = 0 then none else g.edges[i-1]?) (g.edges.drop i)) (fun i => g.edges.length - i) 0
    ⟨rfl, rfl, rfl, rfl, rfl, trivial⟩ ⟨k3, by omega, by simp⟩ ?_
  rintro i e0 w4 ⟨k4, hi, hr⟩
  refine sp (fun h3 => ?_) (fun h3 => ?_)
  · have hi' : i < g.edges.length := by omega
    rw [List.drop_eq_getElem_cons hi'] at hr
    obtain ⟨b, o, rfl, hlo, hhi, cs, hcs, hrd, rfl, hwf⟩ := hedges i g.edges[i] (by simp)
    refine ne ⟨by omega, h3⟩ ?_
    refine ld agree (v := g.edges[i].val) ((k1.trans k4).range hrd id) rfl ?_
    refine nd fun q w5 e5 s5 k5 m5 => ?_
    refine st agree (cs := [.int .i64 0, .int .i64 0, .int .u16 0, .int .u16 0]) m5 rfl (Nat.le_refl 4) rfl ?_
    intro w6 s6 k6 m6
    have m6 : Own w6 q 52 g.edges[i].cells := m6
    have k46 : Kp w4 w6 := k5.new e5 k6
    have A : ∀ W, Kp w6 W → Own W q 52 g.edges[i].cells := fun W h => h.heap m6 id
    have B : ∀ W, Kp w6 W → Own W p 28 [.slice pa g.props.length pc, .int .i64 g.states, iv, .slice (some ⟨b, o, none⟩) g.edges.length ec, .slice sa g.sets.length sc] := fun W h => h.heap (k46.heap (k4.heap m1 id) id) id
    have bad : ∀ W, Kp w6 W → edgesGo g.states L none g.edges = false → (Value.int .i64 100 = .int .i64 (errS (checkS g)) ∧ Kp w W) := fun W h hf => ret0 W (k4.trans (k46.trans h)) (by rw [hck, hf]; rfl)
    refine drawn0 agree mixed 53 (by kernel_rfl) (fun _ => False) ?_
    conv => whnf
    refine ldk agree rfl rfl (fun W h _ => Own.at_ (xs := [.int .i64 g.edges[i].frm]) (A W h) rfl) (by rfl) fun _ => ?_
    conv => whnf
    refine bsk rfl rfl rfl rfl (by rfl) (by decide) fun q1 D1 hD1 => ?_
    conv => whnf
    refine ldk agree rfl rfl (fun W h _ => Own.at_ (xs := [.int .i64 g.states]) (B W h) rfl) (by rfl) fun _ => ?_
    conv => whnf
    cases hb1 : risingFrom g.states none [g.edges[i].frm] with
    | false =>
      refine callk (v := .bool false) rfl rfl rfl callIsRow (fun W h1 h2 => by
        have := isRow_c (n := g.states) (xs := [g.edges[i].frm]) (lo := q1) (hi := q1 + 1) (row1 (hD1 W (h2 2 (by kernel_rfl))).1 rfl rfl (Nat.le_refl 1) (Nat.le_refl _) (by omega)) (by simp)
        rw [hb1] at this
        exact this) fun _ => ?_
      conv => whnf
      intro W h _
      exact bad W h (by rw [hr]; simp [edgesGo, hb1])
    | true =>
      refine callk (v := .bool true) rfl rfl rfl callIsRow (fun W h1 h2 => by
        have := isRow_c (n := g.states) (xs := [g.edges[i].frm]) (lo := q1) (hi := q1 + 1) (row1 (hD1 W (h2 2 (by kernel_rfl))).1 rfl rfl (Nat.le_refl 1) (Nat.le_refl _) (by omega)) (by simp)
        rw [hb1] at this
        exact this) fun _ => ?_
      conv => whnf
      refine ldk agree rfl rfl (fun W h _ => Own.at_ (xs := [.int .i64 g.edges[i].to]) (A W h) rfl) (by rfl) fun _ => ?_
      conv => whnf
      refine bsk rfl rfl rfl rfl (by rfl) (by decide) fun q2 D2 hD2 => ?_
      conv => whnf
      refine ldk agree rfl rfl (fun W h _ => Own.at_ (xs := [.int .i64 g.states]) (B W h) rfl) (by rfl) fun _ => ?_
      conv => whnf
      cases hb2 : risingFrom g.states none [g.edges[i].to] with
      | false =>
        refine callk (v := .bool false) rfl rfl rfl callIsRow (fun W h1 h2 => by
          have := isRow_c (n := g.states) (xs := [g.edges[i].to]) (lo := q2) (hi := q2 + 1) (row1 (hD2 W (h2 10 (by kernel_rfl))).1 rfl rfl (Nat.le_refl 1) (Nat.le_refl _) (by omega)) (by simp)
          rw [hb2] at this
          exact this) fun _ => ?_
        conv => whnf
        intro W h _
        exact bad W h (by rw [hr]; simp [edgesGo, hb2])
      | true =>
        refine callk (v := .bool true) rfl rfl rfl callIsRow (fun W h1 h2 => by
          have := isRow_c (n := g.states) (xs := [g.edges[i].to]) (lo := q2) (hi := q2 + 1) (row1 (hD2 W (h2 10 (by kernel_rfl))).1 rfl rfl (Nat.le_refl 1) (Nat.le_refl _) (by omega)) (by simp)
          rw [hb2] at this
          exact this) fun _ => ?_
        conv => whnf
        refine ldk agree rfl rfl (fun W h _ => Own.at_ (xs := [.int .u16 g.edges[i].must]) (A W h) rfl) (by rfl) fun _ => ?_
        conv => whnf
        refine aw (by have := hwf.1; omega) (by have := hwf.2.1; omega) ?_
        conv => whnf
        refine sp (fun h5 => ?_) (fun h5 => ?_)
        · conv => whnf
          intro W h _
          exact bad W h (by rw [hr]; simp [edgesGo, h5])
        conv => whnf
        refine ldk agree rfl rfl (fun W h _ => Own.at_ (xs := [.int .u16 g.edges[i].no]) (A W h) rfl) (by rfl) fun _ => ?_
        conv => whnf
        refine aw (by have := hwf.2.2.1; omega) (by have := hwf.2.2.2; omega) ?_
        conv => whnf
        refine sp (fun h6 => ?_) (fun h6 => ?_)
        · conv => whnf
          intro W h _
          exact bad W h (by rw [hr]; simp [edgesGo, h6])
        conv => whnf
        refine ldk agree rfl rfl (fun W h _ => Own.at_ (xs := [.int .u16 g.edges[i].must]) (A W h) rfl) (by rfl) fun _ => ?_
        conv => whnf
        refine ldk agree rfl rfl (fun W h _ => Own.at_ (xs := [.int .u16 g.edges[i].no]) (A W h) rfl) (by rfl) fun _ => ?_
        conv => whnf
        refine ar ?_
        conv => whnf
        refine sp (fun h7 => ?_) (fun h7 => ?_)
        · conv => whnf
          intro W h _
          exact bad W h (by rw [hr]; simp [edgesGo, h7])
        conv => whnf
        have step : ∀ W, Kp w6 W → (match (if i = 0 then none else g.edges[i-1]?) with | some y => decide (0 ≤ orderS y g.edges[i]) | none => false) = false → ∀ e',
            Has e' [(1, pt p 0), (3, .int .i64 L), (35, .slice (some ⟨b, o, none⟩) g.edges.length ec), (36, .int .i64 g.edges.length), (37, .int .i64 (i + 1 : Nat))] → e' mark = undef →
            Again (σ := Nat) (fun i => [(1, pt p 0), (3, .int .i64 L), (35, .slice (some ⟨b, o, none⟩) g.edges.length ec), (36, .int .i64 g.edges.length), (37, .int .i64 i)])
              (fun i w' => Kp w1 w' ∧ i ≤ g.edges.length ∧ edgesGo g.states L none g.edges = edgesGo g.states L (if i = 0 then none else g.edges[i-1]?) (g.edges.drop i)) (fun i => g.edges.length - i) i e' W := fun W h hlast e' he hmk =>
          again (hm := hmk) (i + 1) he ⟨k4.trans (k46.trans h), by omega, by
            rw [hr]
            simp only [edgesGo, hb1, hb2, hlast, Bool.true_and, Bool.not_false]
            rw [decide_eq_false h5, decide_eq_false h6, decide_eq_false h7]
            simp [List.getElem?_eq_getElem hi']⟩ (by omega)
        refine sp (fun h8 => ?_) (fun h8 => ?_)
        · conv => whnf
          refine ldk agree rfl rfl (fun W h _ => Own.at_ (xs := [.slice (some ⟨b, o, none⟩) g.edges.length ec]) (B W h) rfl) (by rfl) fun _ => ?_
          conv => whnf
          refine aw (by omega) (by omega) ?_
          conv => whnf
          refine ne ⟨by omega, by omega⟩ ?_
          conv => whnf
          obtain ⟨b', o', hb', -, -, cs', hcs', hrd', rfl, hwf'⟩ := hedges (i - 1) g.edges[i-1] (by simp)
          cases hb'
          refine ldk agree (v := g.edges[i-1].val) rfl rfl (fun W h _ => (k1.trans (k4.trans (k46.trans h))).range (by have := hrd'; rw [show (i - 1) * 4 = ((i : Int) - 1).toNat * ti52.size by show _ = ((i : Int) - 1).toNat * 4; omega] at this; exact this) id) (by rfl) fun _ => ?_
          conv => whnf
          refine ldk agree (v := g.edges[i].val) rfl rfl (fun W h _ => Own.at_ (xs := g.edges[i].cells) (A W h) rfl) (by rfl) fun _ => ?_
          conv => whnf
          refine callk (v := .int .i64 (orderS g.edges[i-1] g.edges[i])) rfl rfl rfl callOrder (fun W _ _ => by
            have := order_c W g.edges[i-1] g.edges[i]
            exact this) fun _ => ?_
          conv => whnf
          have h0 : i ≠ 0 := by omega
          refine sp (fun h9 => ?_) (fun h9 => ?_)
          · conv => whnf
            intro W h _
            exact bad W h (by rw [hr, if_neg h0, List.getElem?_eq_getElem (by omega)]; simp [edgesGo, h9])
          · conv => whnf
            intro W h _
            refine aw (by omega) (by omega) ?_
            exact step W h (by rw [if_neg h0, List.getElem?_eq_getElem (by omega)]; simpa using h9) _ ⟨rfl, rfl, rfl, rfl, rfl, trivial⟩ rfl
        · conv => whnf
          intro W h _
          refine aw (by omega) (by omega) ?_
          exact step W h (by rw [if_pos (by omega)]) _ ⟨rfl, rfl, rfl, rfl, rfl, trivial⟩ rfl
  · rw [List.drop_eq_nil_of_le (by omega)] at hr
    have hr : edgesGo g.states L none g.edges = true := hr
    refine ld agree (Own.at_ (xs := [.slice sa g.sets.length sc]) (k4.own m1 id) rfl) (by rfl) ?_
    refine loop agree (σ := Nat) (fun i => [(1, pt p 0), (97, .slice sa g.sets.length sc), (98, .int .i64 g.sets.length), (99, .int .i64 i)])
      (fun i w' => Kp w1 w' ∧ i ≤ g.sets.length ∧ (g.sets.take i).all (risingFrom g.states none) = true) (fun i => g.sets.length - i) 0
      ⟨rfl, rfl, rfl, rfl, trivial⟩ ⟨k4, by omega, by simp⟩ ?_
    rintro j e0 w5 ⟨k5, hj, hall⟩
    refine sp (fun h4 => ?_) (fun h4 => ?_)
    · have hj' : j < g.sets.length := by omega
      obtain ⟨b, o, rfl, hlo, hhi, cs, hcs, hrd, u, rfl, hu, hul⟩ := hsets j g.sets[j] (by simp)
      refine ne ⟨by omega, h4⟩ ?_
      refine ld agree ((k1.trans k5).range hrd id) (by rfl) ?_
      refine ld agree (Own.at_ (xs := [.int .i64 g.states]) (k5.own m1 id) rfl) (by rfl) ?_
      cases hb : risingFrom g.states none g.sets[j] with
      | false =>
        refine cl callIsRow (rowc w5 u g.sets[j] k5 hu hul _ hb) ?_
        rintro _ w6 ⟨rfl, k6⟩
        refine ret0 _ (k5.trans k6) ?_
        rw [hck, hr, Bool.true_and, List.all_eq_false]
        exact ⟨g.sets[j], by simp, by simp [hb]⟩
      | true =>
        refine cl callIsRow (rowc w5 u g.sets[j] k5 hu hul _ hb) ?_
        rintro _ w6 ⟨rfl, k6⟩
        refine aw (by omega) (by omega) ?_
        refine again (j + 1) ⟨rfl, rfl, rfl, rfl, trivial⟩ ⟨k5.trans k6, by omega, ?_⟩ (by omega)
        rw [show g.sets.take (j + 1) = g.sets.take j ++ [g.sets[j]] by simp, List.all_append, hall]
        simp [hb]
    · have ht : g.sets.take j = g.sets := List.take_of_length_le (by omega)
      rw [ht] at hall
      exact ⟨by rw [hck, hr, hall]; rfl, k1.trans k5⟩
theorem callCheckG : callable Proofs.Try.prog 13 = true := by kernel_rfl
end Go.Au

namespace Go.Au
open Go Go.RowKit Go.MapKept
open Go.Maps (Keyed)

structure BuchiV (lo hi : Nat) (w : World) (p i e f : Value) (g : Buchi) : Prop where
  props : Strs lo hi w p g.props
  init : Ints lo hi w i g.init
  edges : Edges lo hi w e g.edges
  final : Ints lo hi w f g.final
  lp : g.props.length < 4611686018427387904
  li : g.init.length < 4611686018427387904
  le : g.edges.length < 4611686018427387904
  lf : g.final.length < 4611686018427387904
def Buchi.general (b : Buchi) : General := { props := b.props, states := b.states, init := b.init, edges := b.edges, sets := [b.final] }

theorem general_c (w : World) (a1 a2 a3 a4 : Option Addr) (l1 c1 l2 c2 l3 c3 l4 c4 : Nat) (n : Int) :
    Calls Proofs.Try.prog 53 [.agg #[.slice a1 l1 c1, .int .i64 n, .slice a2 l2 c2, .slice a3 l3 c3, .slice a4 l4 c4]].toArray w
      (Ret fun r w' => Kp w w' ∧ ∃ q, w.heap.size ≤ q ∧ q < w'.heap.size ∧ w'.heap[q]? = some (.cells [.slice a4 l4 c4].toArray 24 (0, 0)) ∧ r = .agg #[.slice a1 l1 c1, .int .i64 n, .slice a2 l2 c2, .slice a3 l3 c3, .slice (some ⟨q, 0, none⟩) 1 1]) := by
  refine call agree Proofs.Try.func53 rfl Proofs.Try.ntmps53 (by kernel_rfl) ?_
  refine nd fun p w1 e1 s1 k1 m1 => ?_
  have m1 : Own w1 p 31 [.slice a1 l1 c1, .int .i64 n, .slice a2 l2 c2, .slice a3 l3 c3, .slice a4 l4 c4] := m1
  refine nd fun q w2 e2 s2 k2 m2 => ?_
  have m2 : Own w2 q 28 [.slice none 0 0, .int .i64 0, .slice none 0 0, .slice none 0 0, .slice none 0 0] := m2
  have m1 := k2.own m1 id
  refine ld agree (Own.at_ (xs := [.slice a1 l1 c1]) m1 rfl) (by rfl) ?_
  refine ld agree (Own.at_ (xs := [.int .i64 n]) m1 rfl) (by rfl) ?_
  refine ld agree (Own.at_ (xs := [.slice a2 l2 c2]) m1 rfl) (by rfl) ?_
  refine ld agree (Own.at_ (xs := [.slice a3 l3 c3]) m1 rfl) (by rfl) ?_
  refine ld agree (Own.at_ (xs := [.slice a4 l4 c4]) m1 rfl) (by rfl) ?_
  refine ne (by decide) ?_
  refine nd fun r w3 e3 s3 k3 m3 => ?_
  have m3 : Own w3 r 24 [.slice a4 l4 c4] := m3
  refine st agree (k3.own m2 id) rfl (Nat.le_refl 5) rfl ?_
  intro w4 s4 k4 m4
  refine ld agree (Own.at_ (xs := [.slice a1 l1 c1, .int .i64 n, .slice a2 l2 c2, .slice a3 l3 c3, .slice (some ⟨r, 0, none⟩) 1 1]) (o := 0) m4 rfl) (by rfl) ?_
  refine ⟨?_, r, ?_, ?_, ?_, rfl⟩
  · exact k1.trans ((k2.trans k3).new e2 k4)
  · have := k1.size; have := k2.size; omega
  · omega
  · exact k4.heap m3 (by omega)
theorem callGeneral : callable Proofs.Try.prog 53 = true := by kernel_rfl

theorem GenV.chg {lo hi lo' hi' : Nat} {w w' : World} {p i e s : Value} {g : General} (h : GenV lo hi w p i e s g) (k : Kp w w') (h1 : lo' ≤ lo) (h2 : hi ≤ hi') : GenV lo' hi' w' p i e s g :=
  ⟨(h.props.chg k (fun _ _ _ h => h) (fun _ _ h => h)).mono (fun _ _ h => h) h1 h2, (h.init.chg k (fun _ _ _ h => h) (fun _ _ h => h)).mono (fun _ _ h => h) h1 h2, (h.edges.chg k (fun _ _ _ h => h) (fun _ _ h => h)).mono (fun _ _ h => h) h1 h2,
    (h.sets.chg k (fun _ _ _ h => h) (fun _ _ ⟨u, hu, hr, hl⟩ => ⟨u, hu, hr.chg k (fun _ _ _ h => h) (fun _ _ h => h), hl⟩)).mono (fun _ _ ⟨u, hu, hr, hl⟩ => ⟨u, hu, hr.mono (fun _ _ h => h) h1 h2, hl⟩) h1 h2, h.lp, h.li, h.le, h.ls⟩
theorem BuchiV.chg {lo hi lo' hi' : Nat} {w w' : World} {p i e s : Value} {g : Buchi} (h : BuchiV lo hi w p i e s g) (k : Kp w w') (h1 : lo' ≤ lo) (h2 : hi ≤ hi') : BuchiV lo' hi' w' p i e s g :=
  ⟨(h.props.chg k (fun _ _ _ h => h) (fun _ _ h => h)).mono (fun _ _ h => h) h1 h2, (h.init.chg k (fun _ _ _ h => h) (fun _ _ h => h)).mono (fun _ _ h => h) h1 h2, (h.edges.chg k (fun _ _ _ h => h) (fun _ _ h => h)).mono (fun _ _ h => h) h1 h2,
    (h.final.chg k (fun _ _ _ h => h) (fun _ _ h => h)).mono (fun _ _ h => h) h1 h2, h.lp, h.li, h.le, h.lf⟩

/-- an automaton as a general one -/
theorem BuchiV.general {lo hi q : Nat} {w : World} {p i e f : Value} {g : Buchi} (h : BuchiV lo hi w p i e f g) (m : w.heap[q]? = some (.cells [f].toArray 24 (0, 0))) : GenV 0 (max hi (q + 1)) w p i e (.slice (some ⟨q, 0, none⟩) 1 1) g.general := by
  have h' := h.chg (Chg.refl _ w) (Nat.zero_le _) (Nat.le_max_left hi (q + 1))
  refine ⟨h'.props, h'.init, h'.edges, ?_, h.lp, h.li, h.le, by simp [Buchi.general]⟩
  refine row1R m (fun j x hx => ?_) rfl (Nat.le_refl _) (Nat.zero_le _) (by omega)
  cases j with
  | zero =>
    simp [Buchi.general] at hx
    subst hx
    exact ⟨f, rfl, f, rfl, h'.final, h.lf⟩
  | succ j => simp [Buchi.general] at hx

theorem checkB_c {w : World} {lo hi : Nat} {pv iv ev fv : Value} {g : Buchi} (hv : BuchiV lo hi w pv iv ev fv g) :
    Calls Proofs.Try.prog 14 [.agg #[pv, .int .i64 g.states, iv, ev, fv]].toArray w (Ret fun r w' => r = .int .i64 (errS (checkS g.general)) ∧ Kp w w') := by
  obtain ⟨a1, c1, rfl, -⟩ := id hv.props
  obtain ⟨a2, c2, rfl, -⟩ := id hv.init
  obtain ⟨a3, c3, rfl, -⟩ := id hv.edges
  obtain ⟨a4, c4, rfl, -⟩ := id hv.final
  refine call agree Proofs.Try.func14 rfl Proofs.Try.ntmps14 (by kernel_rfl) ?_
  refine nd fun p w1 e1 s1 k1 m1 => ?_
  have m1 : Own w1 p 31 [.slice a1 g.props.length c1, .int .i64 g.states, .slice a2 g.init.length c2, .slice a3 g.edges.length c3, .slice a4 g.final.length c4] := m1
  refine ld agree (Own.at_ (xs := [.slice a1 g.props.length c1, .int .i64 g.states, .slice a2 g.init.length c2, .slice a3 g.edges.length c3, .slice a4 g.final.length c4]) (o := 0) m1 rfl) (by rfl) ?_
  refine cl callGeneral (general_c w1 a1 a2 a3 a4 _ c1 _ c2 _ c3 _ c4 g.states) ?_
  rintro _ w2 ⟨k2, q, hq1, hq2, mq, rfl⟩
  have hg := (hv.chg (k1.trans k2) (Nat.le_refl _) (Nat.le_refl _)).general mq
  have hc := check_c hg
  refine cl callCheckG hc ?_
  rintro _ w3 ⟨rfl, k3⟩
  exact ⟨rfl, k1.trans (k2.trans k3)⟩
theorem callCheck : callable Proofs.Try.prog 14 = true := by kernel_rfl
end Go.Au

namespace Go.Au
open Go Go.RowKit Go.MapKept
open Go.Maps (Keyed)

def Let16 (x : Int) : Prop := 0 ≤ x ∧ x < 65536
abbrev Letters := RowE (fun _ cs (x : Int) => cs = [.int .u16 x] ∧ Let16 x) 1
structure Word where
  stem : List Int
  loop : List Int
structure WordV (lo hi : Nat) (w : World) (s l : Value) (x : Word) : Prop where
  stem : Letters lo hi w s x.stem
  loop : Letters lo hi w l x.loop
  ls : x.stem.length < 2305843009213693952
  ll : x.loop.length < 2305843009213693952
theorem WordV.chg {lo hi lo' hi' : Nat} {w w' : World} {s l : Value} {x : Word} (h : WordV lo hi w s l x) (k : Kp w w') (h1 : lo' ≤ lo) (h2 : hi ≤ hi') : WordV lo' hi' w' s l x :=
  ⟨(h.stem.chg k (fun _ _ _ h => h) (fun _ _ h => h)).mono (fun _ _ h => h) h1 h2, (h.loop.chg k (fun _ _ _ h => h) (fun _ _ h => h)).mono (fun _ _ h => h) h1 h2, h.ls, h.ll⟩

def indexOf (φ : Int → Bool) : Nat → List Int → Int
  | _, [] => -1
  | i, x :: r => if φ x then i else indexOf φ (i + 1) r

theorem index_c {w : World} {lo hi : Nat} {v : Value} {xs : List Int} (h : Letters lo hi w v xs) (hl : xs.length < 4611686018427387904) (g : FuncId) (cap : List Value) (φ : Int → Bool) (hg : callable Proofs.Try.prog g = true)
    (hf : ∀ W x, Kp w W → Let16 x → Calls Proofs.Try.prog g (.int .u16 x :: cap).toArray W (Ret fun r w' => r = .bool (φ x) ∧ Kp W w')) :
    Calls Proofs.Try.prog 126 [v, .func (.func g) #[] cap.toArray].toArray w (Ret fun r w' => r = .int .i64 (indexOf φ 0 xs) ∧ Kp w w') := by
  obtain ⟨a, c, rfl, hcap, hx⟩ := h
  refine call agree Proofs.Try.func126 rfl Proofs.Try.ntmps126 (by kernel_rfl) ?_
  refine loop agree (σ := Nat) (fun i => [(0, .slice a xs.length c), (1, .func (.func g) #[] cap.toArray), (6, .slice a xs.length c), (7, .int .i64 xs.length), (8, .int .i64 i)])
    (fun i w' => Kp w w' ∧ i ≤ xs.length ∧ indexOf φ 0 xs = indexOf φ i (xs.drop i)) (fun i => xs.length - i) 0
    ⟨rfl, rfl, rfl, rfl, rfl, trivial⟩ ⟨Chg.refl _ _, by omega, by simp⟩ ?_
  rintro i e0 w1 ⟨hk, hi, hr⟩
  refine sp (fun h1 => ?_) (fun h1 => ?_)
  · have hi' : i < xs.length := by omega
    obtain ⟨b, o, rfl, hlo, hhi, cs, hcs, hrd, rfl, hwf⟩ := hx i xs[i] (by simp)
    rw [List.drop_eq_getElem_cons hi'] at hr
    refine ne ⟨by omega, h1⟩ ?_
    refine ld agree (hk.range hrd id) (by rfl) ?_
    cases hb : φ xs[i] with
    | true =>
      refine cl (R := fun r w' => r = .bool true ∧ Kp w1 w') hg (by have := hf w1 xs[i] hk hwf; rw [hb] at this; exact this) ?_
      rintro _ w2 ⟨rfl, k2⟩
      exact ⟨congrArg (Value.int .i64) (by rw [hr]; simp [indexOf, hb]), hk.trans k2⟩
    | false =>
      refine cl (R := fun r w' => r = .bool false ∧ Kp w1 w') hg (by have := hf w1 xs[i] hk hwf; rw [hb] at this; exact this) ?_
      rintro _ w2 ⟨rfl, k2⟩
      refine aw (by omega) (by omega) ?_
      refine again (i + 1) ⟨rfl, rfl, rfl, rfl, rfl, trivial⟩ ⟨hk.trans k2, by omega, ?_⟩ (by omega)
      rw [hr]; simp [indexOf, hb]
  · exact ⟨congrArg (Value.int .i64) (by rw [hr, List.drop_eq_nil_of_le (by omega)]; rfl), hk⟩
theorem callIndex : callable Proofs.Try.prog 126 = true := by kernel_rfl
theorem indexOf_any (φ : Int → Bool) : ∀ (xs : List Int) (i : Nat), (0 ≤ indexOf φ i xs) ↔ xs.any φ = true
  | [], i => by simp [indexOf]
  | x :: r, i => by
    simp only [indexOf, List.any_cons]
    cases h : φ x with
    | true => simp
    | false => simpa using indexOf_any φ r (i + 1)
theorem contains_c {w : World} {lo hi : Nat} {v : Value} {xs : List Int} (h : Letters lo hi w v xs) (hl : xs.length < 4611686018427387904) (g : FuncId) (cap : List Value) (φ : Int → Bool) (hg : callable Proofs.Try.prog g = true)
    (hf : ∀ W x, Kp w W → Let16 x → Calls Proofs.Try.prog g (.int .u16 x :: cap).toArray W (Ret fun r w' => r = .bool (φ x) ∧ Kp W w')) :
    Calls Proofs.Try.prog 100 [v, .func (.func g) #[] cap.toArray].toArray w (Ret fun r w' => r = .bool (xs.any φ) ∧ Kp w w') := by
  refine call agree Proofs.Try.func100 rfl Proofs.Try.ntmps100 (by kernel_rfl) ?_
  refine cl callIndex (index_c h hl g cap φ hg hf) ?_
  rintro _ w1 ⟨rfl, k1⟩
  refine sp (fun h => ?_) (fun h => ?_)
  · exact ⟨congrArg Value.bool ((indexOf_any φ xs 0).1 h).symm, k1⟩
  · refine ⟨congrArg Value.bool ?_, k1⟩
    rw [indexOf_any φ xs 0] at h
    simpa using h
theorem callContains : callable Proofs.Try.prog 100 = true := by kernel_rfl

theorem shl_val {n : Nat} (h : n ≤ 8) : (1 : Int) * 2 ^ (min ((n : Int)).toNat (IntKind.bits .i64)) = 2 ^ n ∧ (1 : Int) ≤ 2 ^ n ∧ (2 : Int) ^ n ≤ 256 := by
  refine ⟨?_, ?_, ?_⟩
  · rw [Int.toNat_natCast, Nat.min_eq_left (by simp only [IntKind.bits]; omega), Int.one_mul]
  · have h : 1 ≤ (2 : Nat) ^ n := Nat.one_le_two_pow
    have := Int.ofNat_le.2 h
    rw [Int.natCast_pow] at this
    exact this
  · have h : (2 : Nat) ^ n ≤ 2 ^ 8 := Nat.pow_le_pow_right (by decide) h
    have := Int.ofNat_le.2 h
    rw [Int.natCast_pow] at this
    exact this

theorem far_c {w : World} {b n : Nat} (hn : n ≤ 8) (m : Own w b 3 [.int .i64 n]) (x : Int) (hx : Let16 x) : Calls Proofs.Try.prog 99 [.int .u16 x, pt b 0].toArray w (Ret fun r w' => r = .bool (decide ((2 : Int) ^ n ≤ x)) ∧ Kp w w') := by
  refine call agree Proofs.Try.func99 rfl Proofs.Try.ntmps99 (by kernel_rfl) ?_
  obtain ⟨h1, h2⟩ := hx
  obtain ⟨e1, e2, e3⟩ := shl_val hn
  refine aw (by omega) (by omega) ?_
  refine ld agree (Own.at_ (xs := [.int .i64 n]) m rfl) (by rfl) ?_
  refine ne (by omega) ?_
  refine aw (by rw [e1]; omega) (by rw [e1]; omega) ?_
  refine sp (fun h => ?_) (fun h => ?_)
  · exact ⟨congrArg Value.bool (by rw [decide_eq_true (by rw [← e1]; exact h)]), Chg.refl _ _⟩
  · exact ⟨congrArg Value.bool (by rw [decide_eq_false (by rw [← e1]; exact h)]), Chg.refl _ _⟩
theorem callFar : callable Proofs.Try.prog 99 = true := by kernel_rfl

def wordOk (x : Word) (n : Nat) : Bool := !decide (x.loop.length = 0) && !x.stem.any (fun c => decide ((2 : Int) ^ n ≤ c)) && !x.loop.any (fun c => decide ((2 : Int) ^ n ≤ c))

theorem wcheck_c {w : World} {lo hi : Nat} {sv lv : Value} {x : Word} (hv : WordV lo hi w sv lv x) {n : Nat} (hn : n ≤ 8) :
    Calls Proofs.Try.prog 66 [.agg #[sv, lv], .int .i64 n].toArray w (Ret fun r w' => r = .int .i64 (if wordOk x n then 0 else 50) ∧ Kp w w') := by
  refine call agree Proofs.Try.func66 rfl Proofs.Try.ntmps66 (by kernel_rfl) ?_
  refine nd fun p w1 e1 s1 k1 m1 => ?_
  have m1 : Own w1 p 44 [sv, lv] := m1
  refine nd fun q w2 e2 s2 k2 m2 => ?_
  have m2 : Own w2 q 3 [.int .i64 n] := m2
  have m1 := k2.own m1 id
  refine ld agree (Own.at_ (xs := [.int .i64 n]) m2 rfl) (by rfl) ?_
  refine spF (by omega) ?_
  refine ld agree (Own.at_ (xs := [.int .i64 n]) m2 rfl) (by rfl) ?_
  refine spF (by omega) ?_
  have k02 := k1.trans k2
  have hf : ∀ W x, Kp w2 W → Let16 x → Calls Proofs.Try.prog 99 (.int .u16 x :: [pt q 0]).toArray W (Ret fun r w' => r = .bool (decide ((2 : Int) ^ n ≤ x)) ∧ Kp W w') := fun W x k hx => far_c hn (k.own m2 id) x hx
  have hv2 := hv.chg k02 (Nat.le_refl _) (Nat.le_refl _)
  have hls := hv.ls
  have hll := hv.ll
  obtain ⟨a2, c2, hlv, -⟩ := id hv.loop
  subst hlv
  refine ld agree (Own.at_ (xs := [.slice a2 x.loop.length c2]) m1 rfl) (by rfl) ?_
  refine sp (fun h => ?_) (fun h => ?_)
  · exact ⟨congrArg (Value.int .i64) (by simp [wordOk, show x.loop.length = 0 by omega]), k02⟩
  · refine ld agree (Own.at_ (xs := [sv]) m1 rfl) (by rfl) ?_
    cases hb : x.stem.any (fun c => decide ((2 : Int) ^ n ≤ c)) with
    | true =>
      refine cl (R := fun r w' => r = .bool true ∧ Kp w2 w') callContains (by have := contains_c hv2.stem (by omega) _ [pt q 0] _ callFar hf; rw [hb] at this; exact this) ?_
      rintro _ w3 ⟨rfl, k3⟩
      exact ⟨congrArg (Value.int .i64) (by simp only [wordOk, hb]; simp), k02.trans k3⟩
    | false =>
      refine cl (R := fun r w' => r = .bool false ∧ Kp w2 w') callContains (by have := contains_c hv2.stem (by omega) _ [pt q 0] _ callFar hf; rw [hb] at this; exact this) ?_
      rintro _ w3 ⟨rfl, k3⟩
      refine ld agree (Own.at_ (xs := [.slice a2 x.loop.length c2]) (k3.own m1 id) rfl) (by rfl) ?_
      have hv3 := hv2.chg k3 (Nat.le_refl _) (Nat.le_refl _)
      cases hb2 : x.loop.any (fun c => decide ((2 : Int) ^ n ≤ c)) with
      | true =>
        refine cl (R := fun r w' => r = .bool true ∧ Kp w3 w') callContains (by have := contains_c hv3.loop (by omega) _ [pt q 0] _ callFar (fun W x k hx => hf W x (k3.trans k) hx); rw [hb2] at this; exact this) ?_
        rintro _ w4 ⟨rfl, k4⟩
        exact ⟨congrArg (Value.int .i64) (by simp only [wordOk, hb2]; simp), k02.trans (k3.trans k4)⟩
      | false =>
        refine cl (R := fun r w' => r = .bool false ∧ Kp w3 w') callContains (by have := contains_c hv3.loop (by omega) _ [pt q 0] _ callFar (fun W x k hx => hf W x (k3.trans k) hx); rw [hb2] at this; exact this) ?_
        rintro _ w4 ⟨rfl, k4⟩
        exact ⟨congrArg (Value.int .i64) (by simp only [wordOk, hb, hb2]; rw [decide_eq_false (by omega)]; rfl), k02.trans (k3.trans k4)⟩
theorem callWCheck : callable Proofs.Try.prog 66 = true := by kernel_rfl
end Go.Au

namespace Go.Au
open Go Go.RowKit Go.MapKept
open Go.Maps (Keyed)

def Word.places (x : Word) : Nat := if x.loop.length = 0 then 0 else x.stem.length + x.loop.length
def Word.behind (x : Word) (i : Nat) : Int := if x.places ≤ i then -1 else if i + 1 = x.places then x.stem.length else (i : Int) + 1
def Word.at (x : Word) (i : Nat) : Int := if x.loop.length = 0 then 0 else if i < x.stem.length then x.stem.getD i 0 else x.loop.getD ((i - x.stem.length) % x.loop.length) 0

theorem places_c {w : World} (a1 a2 : Option Addr) (c1 c2 : Nat) (x : Word) (ls : x.stem.length < 2305843009213693952) (ll : x.loop.length < 2305843009213693952) :
    Calls Proofs.Try.prog 127 [.agg #[.slice a1 x.stem.length c1, .slice a2 x.loop.length c2]].toArray w (Ret fun r w' => r = .int .i64 (x.places : Nat) ∧ Kp w w') := by
  refine call agree Proofs.Try.func127 rfl Proofs.Try.ntmps127 (by kernel_rfl) ?_
  refine nd fun p w1 e1 s1 k1 m1 => ?_
  have m1 : Own w1 p 44 [.slice a1 x.stem.length c1, .slice a2 x.loop.length c2] := m1
  refine ld agree (Own.at_ (xs := [.slice a2 x.loop.length c2]) m1 rfl) (by rfl) ?_
  refine sp (fun h => ?_) (fun h => ?_)
  · exact ⟨congrArg (Value.int .i64) (by simp [Word.places, show x.loop.length = 0 by omega]), k1⟩
  · refine ld agree (Own.at_ (xs := [.slice a1 x.stem.length c1]) m1 rfl) (by rfl) ?_
    refine ld agree (Own.at_ (xs := [.slice a2 x.loop.length c2]) m1 rfl) (by rfl) ?_
    refine aw (by omega) (by omega) ?_
    exact ⟨congrArg (Value.int .i64) (by unfold Word.places; rw [if_neg (by omega)]; omega), k1⟩
theorem callPlaces : callable Proofs.Try.prog 127 = true := by kernel_rfl

theorem behind_c {w : World} (a1 a2 : Option Addr) (c1 c2 : Nat) (x : Word) (ls : x.stem.length < 2305843009213693952) (ll : x.loop.length < 2305843009213693952) (i : Nat) (hi : i < 4611686018427387904) :
    Calls Proofs.Try.prog 103 [.agg #[.slice a1 x.stem.length c1, .slice a2 x.loop.length c2], .int .i64 i].toArray w (Ret fun r w' => r = .int .i64 (x.behind i) ∧ Kp w w') := by
  refine call agree Proofs.Try.func103 rfl Proofs.Try.ntmps103 (by kernel_rfl) ?_
  refine nd fun p w1 e1 s1 k1 m1 => ?_
  have m1 : Own w1 p 44 [.slice a1 x.stem.length c1, .slice a2 x.loop.length c2] := m1
  refine ld agree (Own.at_ (xs := [.slice a1 x.stem.length c1, .slice a2 x.loop.length c2]) (o := 0) m1 rfl) (by rfl) ?_
  have hc := places_c (w := w1) a1 a2 c1 c2 x ls ll
  have hpl : x.places ≤ x.stem.length + x.loop.length := by unfold Word.places; split <;> omega
  refine cl callPlaces hc ?_
  rintro _ w2 ⟨rfl, k2⟩
  refine spF (by omega) ?_
  refine sp (fun h => ?_) (fun h => ?_)
  · exact ⟨congrArg (Value.int .i64) (by simp [Word.behind, show x.places ≤ i by omega]), k1.trans k2⟩
  · refine aw (by omega) (by omega) ?_
    refine sp (fun h2 => ?_) (fun h2 => ?_)
    · refine ld agree (Own.at_ (xs := [.slice a1 x.stem.length c1]) (k2.own m1 id) rfl) (by rfl) ?_
      exact ⟨congrArg (Value.int .i64) (by unfold Word.behind; rw [if_neg (by omega), if_pos (by omega)]), k1.trans k2⟩
    · refine aw (by omega) (by omega) ?_
      exact ⟨congrArg (Value.int .i64) (by unfold Word.behind; rw [if_neg (by omega), if_neg (by omega)]), k1.trans k2⟩
theorem callBehind : callable Proofs.Try.prog 103 = true := by kernel_rfl

theorem at_c {w : World} {lo hi : Nat} {sv lv : Value} {x : Word} (hv : WordV lo hi w sv lv x) (i : Nat) (hi : i < 4611686018427387904) :
    Calls Proofs.Try.prog 102 [.agg #[sv, lv], .int .i64 i].toArray w (Ret fun r w' => r = .int .u16 (x.at i) ∧ Kp w w') := by
  have ls := hv.ls
  have ll := hv.ll
  obtain ⟨a1, c1, rfl, -, hs⟩ := hv.stem
  obtain ⟨a2, c2, rfl, -, hl⟩ := hv.loop
  refine call agree Proofs.Try.func102 rfl Proofs.Try.ntmps102 (by kernel_rfl) ?_
  refine nd fun p w1 e1 s1 k1 m1 => ?_
  have m1 : Own w1 p 44 [.slice a1 x.stem.length c1, .slice a2 x.loop.length c2] := m1
  refine spF (by omega) ?_
  refine ld agree (Own.at_ (xs := [.slice a2 x.loop.length c2]) m1 rfl) (by rfl) ?_
  refine sp (fun h => ?_) (fun h => ?_)
  · exact ⟨congrArg (Value.int .u16) (by simp [Word.at, show x.loop.length = 0 by omega]), k1⟩
  refine ld agree (Own.at_ (xs := [.slice a1 x.stem.length c1]) m1 rfl) (by rfl) ?_
  refine sp (fun h2 => ?_) (fun h2 => ?_)
  · refine ld agree (Own.at_ (xs := [.slice a1 x.stem.length c1]) m1 rfl) (by rfl) ?_
    have hi' : i < x.stem.length := by omega
    obtain ⟨b, o, rfl, hlo, hhi, cs, hcs, hrd, rfl, hwf⟩ := hs i x.stem[i] (by simp)
    refine ne ⟨by omega, h2⟩ ?_
    refine ld agree (k1.range hrd id) (by rfl) ?_
    exact ⟨congrArg (Value.int .u16) (by unfold Word.at; rw [if_neg (by omega), if_pos hi']; simp [hi']), k1⟩
  · have hj : (i - x.stem.length) % x.loop.length < x.loop.length := Nat.mod_lt _ (by omega)
    obtain ⟨b, o, rfl, hlo, hhi, cs, hcs, hrd, rfl, hwf⟩ := hl ((i - x.stem.length) % x.loop.length) x.loop[(i - x.stem.length) % x.loop.length] (by simp)
    have hm : ((i : Int) - x.stem.length).tmod x.loop.length = (((i - x.stem.length) % x.loop.length : Nat) : Int) := by
      rw [show (i : Int) - x.stem.length = ((i - x.stem.length : Nat) : Int) by omega, Int.ofNat_tmod]
    have A : ∀ W, Kp w1 W → Own W p 44 [.slice a1 x.stem.length c1, .slice (some ⟨b, o, none⟩) x.loop.length c2] := fun W h => h.heap m1 id
    refine drawn0 agree mixed 14 (by kernel_rfl) (fun _ => False) ?_
    conv => whnf
    refine ldk agree rfl rfl (fun W h _ => Own.at_ (xs := [.slice (some ⟨b, o, none⟩) x.loop.length c2]) (A W h) rfl) (by rfl) fun _ => ?_
    conv => whnf
    refine ldk agree rfl rfl (fun W h _ => Own.at_ (xs := [.slice a1 x.stem.length c1]) (A W h) rfl) (by rfl) fun _ => ?_
    conv => whnf
    refine aw (by omega) (by omega) ?_
    conv => whnf
    refine ldk agree rfl rfl (fun W h _ => Own.at_ (xs := [.slice (some ⟨b, o, none⟩) x.loop.length c2]) (A W h) rfl) (by rfl) fun _ => ?_
    conv => whnf
    refine ne (by omega) ?_
    conv => whnf
    refine ⟨fun y hy => ?_⟩
    rw [hm] at hy
    subst hy
    conv => whnf
    refine ne ⟨by omega, by omega⟩ ?_
    conv => whnf
    refine ldk agree rfl rfl (fun W h _ => (k1.trans h).range hrd id) (by rfl) fun _ => ?_
    conv => whnf
    intro W h _
    exact ⟨congrArg (Value.int .u16) (by unfold Word.at; rw [if_neg (by omega), if_neg (by omega)]; simp [hj]), k1.trans h⟩
theorem callAt : callable Proofs.Try.prog 102 = true := by kernel_rfl
end Go.Au

namespace Go.Au
open Go Go.RowKit Go.MapKept
open Go.Maps (Keyed)

abbrev Place := Int × Int
def pcells (p : Place) : List Value := [.int .i64 p.1, .int .i64 p.2]
def pval (p : Place) : Value := .agg #[.int .i64 p.1, .int .i64 p.2]
theorem pval_inj (x y : Place) (h : pval x = pval y) : x = y := by
  obtain ⟨a, b⟩ := x
  obtain ⟨c, d⟩ := y
  simp [pval] at h
  rw [h.1, h.2]
def I64 (x : Int) : Prop := -9223372036854775808 ≤ x ∧ x ≤ 9223372036854775807
theorem wf64 {x : Int} (h : I64 x) : (Lit.int .i64 x).wf = true := by
  show (decide ((-9223372036854775808 : Int) ≤ x) && decide (x ≤ (9223372036854775807 : Int))) = true
  rw [decide_eq_true h.1, decide_eq_true h.2]; rfl
theorem placeKeyed : Keyed Proofs.Try.prog 133 := Maps.Keyed.of_law (deep_law_laid (P := Proofs.Try.prog) (by kernel_rfl) (m := 2) (by decide) (of_decide_eq_true (by kernel_rfl)) (by kernel_rfl) (by rw [Proofs.Try.underlying133]))
theorem placeType : Proofs.Try.prog.keyType 133 = true := by kernel_rfl
theorem typesPos : ∃ m, Proofs.Try.prog.types.size = m + 1 := ⟨Proofs.Try.prog.types.size - 1, by
  have : 0 < Proofs.Try.prog.types.size := of_decide_eq_true (by kernel_rfl)
  omega⟩
theorem placeKey {p : Place} (h1 : I64 p.1) (h2 : I64 p.2) : ∃ lit, keyOf Proofs.Try.prog 133 (pval p) = some lit := by
  obtain ⟨m, hm⟩ := typesPos
  have w1 : (Lit.int .i64 p.1).wf = true := wf64 h1
  have w2 : (Lit.int .i64 p.2).wf = true := wf64 h2
  unfold keyOf pval
  simp only [Proofs.Try.underlying133]
  rw [if_pos (by simp [placeType, Value.formed, Proofs.Try.underlying133]; try kernel_rfl), hm]
  unfold Program.keyLits
  simp only [Proofs.Try.underlying133, Value.cells]
  rw [if_pos ⟨by kernel_rfl, by kernel_rfl⟩]
  have hc : Proofs.Try.prog.cellsOf 3 = 1 := by kernel_rfl
  simp [hc, Program.keyLits, Proofs.Try.underlying3, w1, w2, List.mapM_cons]
end Go.Au

namespace Go.Au
open Go Go.RowKit Go.MapKept
open Go.Maps (Keyed)

def flat (l : List Place) : List Value := l.flatMap pcells
theorem flat_snoc (l : List Place) (p : Place) : flat (l ++ [p]) = flat l ++ pcells p := by simp [flat]
abbrev PlaceBag (w : World) (base : Nat) (L : List (Value × List Value)) := Bag w base 133 2 L
abbrev OnesE (w : World) (m : Nat) (xs : List (Place × Int)) := MapE Proofs.Try.prog 133 pval (fun n : Int => .int .i64 n) w m xs

structure PutV (w : World) (base p9 p5 r ms mn : Nat) (cs : List Value) (av : Value) (all : List Place) (L : List (Value × List Value)) : Prop where
  m9 : Own w p9 131 [.map (some ms)]
  m5 : Own w p5 94 [pt r 0]
  mr : Own w r 129 (cs ++ [.map (some mn), av])
  len : cs.length = 7
  seen : OnesE w ms (all.map fun p => (p, 1))
  bag : PlaceBag w base ((av, flat all) :: L)
  base : base ≤ w.heap.size

theorem alook_one {α : Type} [DecidableEq α] {l : List α} {s : α} (h : s ∈ l) : alook (l.map fun s => (s, (1 : Int))) s = some 1 := by
  induction l with
  | nil => simp at h
  | cons a r ih =>
    simp only [List.map_cons, alook]
    by_cases h' : a = s
    · rw [if_pos h']
    · rw [if_neg h', ih ((List.mem_cons.1 h).resolve_left (Ne.symm h'))]
theorem aget_ones {all : List Place} {p : Place} : aget (all.map fun p => (p, (1 : Int))) 0 p = if p ∈ all then 1 else 0 := by
  unfold aget
  by_cases h : p ∈ all
  · rw [if_pos h, alook_one h]; rfl
  · rw [if_neg h, alook_none fun q hq he => by
      obtain ⟨x, hx, rfl⟩ := List.mem_map.1 hq
      exact h (he ▸ hx)]
    rfl

theorem put_c {w : World} {base p9 p5 r ms mn : Nat} {cs : List Value} {av : Value} {all : List Place} {L : List (Value × List Value)} (h : PutV w base p9 p5 r ms mn cs av all L) {p : Place} (h1 : I64 p.1) (h2 : I64 p.2) (hl : all.length < 1099511627776) :
    Calls Proofs.Try.prog 101 [pval p, pt p9 0, pt p5 0].toArray w (Ret fun _ w' => ∃ av', PutV w' base p9 p5 r ms mn cs av' (if p ∈ all then all else all ++ [p]) L ∧
      Chg (fun k => k = r ∨ k = ms ∨ some k = av.ownBlock) w w' ∧ ∀ g, av'.ownBlock = some g → av.ownBlock = some g ∨ w.heap.size ≤ g) := by
  refine call agree Proofs.Try.func101 rfl Proofs.Try.ntmps101 (by kernel_rfl) ?_
  refine nd fun q w1 e1 s1 k1 m1 => ?_
  have mq : Own w1 q 133 (pcells p) := m1
  have m9 := k1.own h.m9 id
  have m5 := k1.own h.m5 id
  have mr := k1.own h.mr id
  have seen := h.seen.chg k1 id
  have bag := h.bag.kp k1
  refine ld agree (Own.at_ (xs := [.map (some ms)]) m9 rfl) (by rfl) ?_
  refine ld agree (v := pval p) (Own.at_ (xs := pcells p) (o := 0) mq rfl) (by rfl) ?_
  have hg := MapE.get agree placeKeyed (t := 131) rfl rfl rfl rfl (z := 0) seen p (placeKey h1 h2)
  rw [aget_ones] at hg
  refine lk hg ?_
  by_cases hp : p ∈ all
  · rw [if_pos hp, if_pos hp]
    refine spF (by decide) ?_
    exact ⟨av, ⟨m9, m5, mr, h.len, seen, bag, Nat.le_trans h.base k1.size⟩, k1.mono fun _ hf => hf.elim, fun g hg => .inl hg⟩
  rw [if_neg hp, if_neg hp]
  rw [if_neg hp] at hg
  refine spT (by decide) ?_
  have n9 : p9 ≠ ms := seen.ne m9
  have nq : q ≠ ms := seen.ne mq
  have hpre := preMapR Proofs.Try.prog 133 pval (fun n : Int => .int .i64 n) 0 ms p
  refine drawnR agree mixed 6 (by kernel_rfl) _ hpre ?_
  conv => whnf
  refine ldr hpre agree rfl rfl (fun W h _ => h.chg.range (Own.at_ (xs := [.map (some ms)]) m9 rfl) n9) (by rfl) fun _ => ?_
  conv => whnf
  refine ldr (v := pval p) hpre agree rfl rfl (fun W h _ => h.chg.range (Own.at_ (xs := pcells p) (o := 0) mq rfl) nq) (by rfl) fun _ => ?_
  conv => whnf
  refine lkr (v := .int .i64 0) hpre rfl (fun W h _ => by
    obtain ⟨x1, hm1, he1⟩ := h.map _ seen
    have := MapE.get agree placeKeyed (t := 131) rfl rfl rfl rfl (z := 0) hm1 p (placeKey h1 h2)
    rw [he1.get, aget_ones, if_neg hp] at this
    exact this) fun _ => ?_
  conv => whnf
  refine aw (by omega) (by omega) ?_
  conv => whnf
  refine enr agree placeKeyed (t := 131) rfl rfl rfl rfl rfl rfl (z := 0) rfl seen (placeKey h1 h2) fun s D hD => ?_
  conv => whnf
  intro W hW hDs
  obtain ⟨x1, hen, he1⟩ := hD W (hDs 4)
  refine mu (hen.store 1) ?_
  rintro w3 ⟨hm3, hs3, hc3⟩
  have hones : aput x1 p 1 = (all ++ [p]).map fun p => (p, (1 : Int)) := by
    rw [he1.put, aput_new fun x hx he => by
      obtain ⟨y, hy, rfl⟩ := List.mem_map.1 hx
      exact hp (he ▸ hy)]
    simp
  rw [hones] at hm3
  have hc : Chg (fun k => k = ms) w1 w3 := hW.chg.trans hc3
  have nr : r ≠ ms := seen.ne mr
  have n5 : p5 ≠ ms := seen.ne m5
  have m9 := hc.own m9 n9
  have m5 := hc.own m5 n5
  have mr := hc.own mr nr
  have mq := hc.own mq nq
  obtain ⟨es, clock, hms, -⟩ := seen.h
  have bag := bag.chg hc fun x hx b hb hs => by
    subst hs
    exact bag.ne hms (by simp) x hx hb
  obtain ⟨n, hrow⟩ := bag.own _ List.mem_cons_self
  have hn : n = all.length := by
    have := hrow.1
    simp only [flat] at this
    rw [flat_len (size := 2) (fun x => rfl)] at this
    omega
  subst hn
  have ha : (cs ++ [.map (some mn), av]).length = 9 := by simp [h.len]
  obtain ⟨c0, c1, c2, c3, c4, c5, c6, rfl⟩ : ∃ c0 c1 c2 c3 c4 c5 c6, cs = [c0, c1, c2, c3, c4, c5, c6] := by
    have := h.len
    match cs, this with
    | [c0, c1, c2, c3, c4, c5, c6], _ => exact ⟨_, _, _, _, _, _, _, rfl⟩
  have hlt : ∀ g, av.ownBlock = some g → g < w3.heap.size := fun g hg => (hrow.lt g hg).2
  have ne_of : ∀ {b t cs}, Own w3 b t cs → t ≠ 133 → some b ≠ av.ownBlock := fun {b t cs} ho ht he =>
    ownsRow_ne hrow ho (fun cs fr hh => by injection hh with _ h2; exact ht h2) he.symm
  have ne_q : some q ≠ av.ownBlock := fun he => by
    have := (h.bag.lt _ List.mem_cons_self q he.symm).2
    omega
  have hpre3 := preAppR w3 av (all.length * 2) (pcells p)
  refine drawnR agree mixed 10 (by kernel_rfl) _ hpre3 ?_
  conv => whnf
  refine ldr hpre3 agree rfl rfl (fun W h _ => h.chg.range (Own.at_ (xs := [pt r 0]) m5 rfl) (ne_of m5 (by decide))) (by rfl) fun _ => ?_
  conv => whnf
  refine ldr hpre3 agree rfl rfl (fun W h _ => h.chg.range (Own.at_ (xs := [pt r 0]) m5 rfl) (ne_of m5 (by decide))) (by rfl) fun _ => ?_
  conv => whnf
  refine ldr hpre3 agree rfl rfl (fun W h _ => h.chg.range (Own.at_ (xs := [av]) mr rfl) (ne_of mr (by decide))) (by rfl) fun _ => ?_
  conv => whnf
  refine ldr (v := pval p) hpre3 agree rfl rfl (fun W h _ => h.chg.range (Own.at_ (xs := pcells p) (o := 0) mq rfl) ne_q) (by rfl) fun _ => ?_
  conv => whnf
  refine bsr hpre3 rfl rfl rfl rfl rfl (by decide) (fun b o W W' hb ho hS => hS.chg.heap ho fun hc => by have := hlt b hc.symm; omega) (fun W hS => hS.chg.size) fun b D hD => ?_
  conv => whnf
  refine apr (m := 1) (news := pcells p) agree rfl rfl rfl rfl rfl rfl rfl (by decide) hrow rfl (fun W hS hDn => Own.at_ (xs := pcells p) (o := 0) (hD W (hDn 6 (by kernel_rfl))).1 rfl) rfl (by simp only [maxLen]; omega) (by show (all.length + 1) * 16 ≤ _; omega) (by have := k1.size; have := hc.size; have := h.base; omega) fun av' D2 hD2 => ?_
  conv => whnf
  intro W hS hDn
  obtain ⟨hown', hnew⟩ := hD2 W (hDn 7)
  have mrW := hS.chg.own mr (ne_of mr (by decide))
  obtain ⟨a', cap', rfl⟩ := ownsRow_form hown'
  refine st agree mrW rfl (Nat.le_refl 9) rfl ?_
  intro w4 s4 k4 m4
  refine ⟨.slice a' (all.length + 1) cap', ⟨k4.own (hS.chg.own m9 (ne_of m9 (by decide))) ?_, k4.own (hS.chg.own m5 (ne_of m5 (by decide))) ?_, m4, rfl, ?_, ?_, ?_⟩, ?_, ?_⟩
  · exact own_ne m9 mr (by decide)
  · exact own_ne m5 mr (by decide)
  · obtain ⟨es3, clock3, hms3, -⟩ := hm3.h
    exact (hm3.chg hS.chg fun he => bag.ne hms3 (by simp) _ List.mem_cons_self he.symm).chg k4 (Ne.symm nr)
  · rw [flat_snoc]
    have hb := bag.head hS.chg (fun b h => .inl h) hown' hnew
    exact hb.chg k4 fun x hx b hb' hs => by subst hs; exact hb.ne mrW (fun cs fr hh => by injection hh with _ h2; exact absurd h2 (by decide)) x hx hb'
  · have := k1.size; have := hc.size; have := h.base; have := hS.chg.size; omega
  · have e1 : Chg (fun k => k = r ∨ k = ms ∨ some k = av.ownBlock) w1 w3 := hc.mono fun _ h => .inr (.inl h)
    have e2 : Chg (fun k => k = r ∨ k = ms ∨ some k = av.ownBlock) w3 W := hS.chg.mono fun _ h => .inr (.inr h)
    have e3 : Chg (fun k => k = r ∨ k = ms ∨ some k = av.ownBlock) W w4 := k4.mono fun _ h => .inl h
    exact ((k1.mono fun _ hf => hf.elim).trans e1).trans (e2.trans e3)
  · intro g hg
    exact (hnew g hg).imp id fun h => by have := k1.size; have := hc.size; omega
theorem callPut : callable Proofs.Try.prog 101 = true := by kernel_rfl
end Go.Au

namespace Go.Au
open Go Go.RowKit Go.MapKept
open Go.Maps (Keyed)

/-! ### numbers by breadth -/
theorem pairKeyed : Keyed Proofs.Try.prog 152 := Maps.Keyed.of_law (deep_law_laid (P := Proofs.Try.prog) (by kernel_rfl) (m := 2) (by decide) (of_decide_eq_true (by kernel_rfl)) (by kernel_rfl) (by rw [Proofs.Try.underlying152]))
theorem pairType : Proofs.Try.prog.keyType 152 = true := by kernel_rfl
theorem pairKey {p : Place} (h1 : I64 p.1) (h2 : I64 p.2) : ∃ lit, keyOf Proofs.Try.prog 152 (pval p) = some lit := by
  obtain ⟨m, hm⟩ := typesPos
  have w1 : (Lit.int .i64 p.1).wf = true := wf64 h1
  have w2 : (Lit.int .i64 p.2).wf = true := wf64 h2
  unfold keyOf pval
  simp only [Proofs.Try.underlying152]
  rw [if_pos (by simp [pairType, Value.formed, Proofs.Try.underlying152]; try kernel_rfl), hm]
  unfold Program.keyLits
  simp only [Proofs.Try.underlying152, Value.cells]
  rw [if_pos ⟨by kernel_rfl, by kernel_rfl⟩]
  have hc : Proofs.Try.prog.cellsOf 3 = 1 := by kernel_rfl
  simp [hc, Program.keyLits, Proofs.Try.underlying3, w1, w2, List.mapM_cons]

def numL (L : List Place) (p : Place) : List Place := if p ∈ L then L else L ++ [p]
def numOf (L : List Place) (p : Place) : Nat := (numL L p).idxOf p
def numFrom : Nat → List Place → List (Place × Int)
  | _, [] => []
  | i, p :: r => (p, (i : Int)) :: numFrom (i + 1) r
abbrev numM (L : List Place) : List (Place × Int) := numFrom 0 L
theorem numFrom_snoc (p : Place) : ∀ (L : List Place) (i : Nat), numFrom i (L ++ [p]) = numFrom i L ++ [(p, ((i + L.length : Nat) : Int))]
  | [], i => rfl
  | q :: r, i => by
    show (q, (i : Int)) :: numFrom (i + 1) (r ++ [p]) = (q, (i : Int)) :: (numFrom (i + 1) r ++ _)
    rw [numFrom_snoc p r (i + 1), show i + 1 + r.length = i + (q :: r).length by simp; omega]
theorem numFrom_keys : ∀ (L : List Place) (i : Nat), (numFrom i L).map (·.1) = L
  | [], _ => rfl
  | q :: r, i => by show q :: (numFrom (i + 1) r).map (·.1) = _; rw [numFrom_keys r]
theorem numFrom_look {p : Place} : ∀ (L : List Place) (i : Nat), alook (numFrom i L) p = if p ∈ L then some (((i + L.idxOf p : Nat)) : Int) else none
  | [], _ => rfl
  | q :: r, i => by
    show (if q = p then some (i : Int) else alook (numFrom (i + 1) r) p) = _
    by_cases h : q = p
    · subst h
      rw [if_pos rfl, if_pos List.mem_cons_self, List.idxOf_cons_self]; rfl
    · rw [if_neg h, numFrom_look r (i + 1)]
      by_cases h2 : p ∈ r
      · rw [if_pos h2, if_pos (List.mem_cons_of_mem _ h2), List.idxOf_cons, show (q == p) = false by simpa using h]
        congr 2; simp only [cond_false]; omega
      · rw [if_neg h2, if_neg fun hm => h2 ((List.mem_cons.1 hm).resolve_left (Ne.symm h))]
theorem numL_mem {L : List Place} {p : Place} (h : p ∈ L) : numL L p = L := if_pos h
theorem numL_new {L : List Place} {p : Place} (h : p ∉ L) : numL L p = L ++ [p] := if_neg h
theorem numOf_mem {L : List Place} {p : Place} (h : p ∈ L) : numOf L p = L.idxOf p := by unfold numOf; rw [numL_mem h]
theorem numOf_new {L : List Place} {p : Place} (h : p ∉ L) : numOf L p = L.length := by
  unfold numOf
  rw [numL_new h, List.idxOf_append, if_neg h]
  simp
theorem numL_nodup {L : List Place} {p : Place} (h : L.Nodup) : (numL L p).Nodup := by
  unfold numL
  split
  · exact h
  · rename_i hp
    exact List.nodup_append.2 ⟨h, by simp, fun a ha b hb => by
      simp at hb; subst hb; rintro rfl; exact hp ha⟩

abbrev NumE (w : World) (m : Nat) (xs : List (Place × Int)) := MapE Proofs.Try.prog 152 pval (fun n : Int => .int .i64 n) w m xs
structure NumV (w : World) (base b m : Nat) (v : Value) (L : List Place) : Prop where
  hdr : Own w b 148 [.map (some m), v, .bool false]
  map : NumE w m (numM L)
  row : w.ownsRow base 152 2 v L.length (L.flatMap pcells)
  base : base ≤ w.heap.size
  nd : L.Nodup
theorem NumV.chg {S : Nat → Prop} {w w' : World} {base b m : Nat} {v : Value} {L : List Place} (h : NumV w base b m v L) (k : Chg S w w') (hb : ¬ S b) (hm : ¬ S m) (hv : ∀ g, v.ownBlock = some g → ¬ S g) : NumV w' base b m v L :=
  ⟨k.own h.hdr hb, h.map.chg k hm, ownsRow_chg h.row k hv, Nat.le_trans h.base k.size, h.nd⟩

theorem callNOf : callable Proofs.Try.prog 114 = true := by kernel_rfl
theorem nof_c {w : World} {base b m : Nat} {v : Value} {L : List Place} (h : NumV w base b m v L) {p : Place} (h1 : I64 p.1) (h2 : I64 p.2) (hl : L.length < 65536) :
    Calls Proofs.Try.prog 114 [pt b 0, pval p].toArray w (Ret fun r w' => r = .int .i64 (numOf L p : Nat) ∧ ∃ v', NumV w' base b m v' (numL L p) ∧
      Chg (fun k => k = b ∨ k = m ∨ some k = v.ownBlock) w w' ∧ (∀ g, v'.ownBlock = some g → v.ownBlock = some g ∨ w.heap.size ≤ g) ∧ w.heap.size < w'.heap.size) := by
  refine call agree Proofs.Try.func114 rfl Proofs.Try.ntmps114 (by kernel_rfl) ?_
  refine nd fun q w1 e1 s1 k1 m1 => ?_
  have mq : Own w1 q 152 (pcells p) := m1
  have hdr := k1.own h.hdr id
  have hmap := h.map.chg k1 id
  have hrow := ownsRow_chg h.row k1 fun _ _ => id
  have hk := pairKey h1 h2
  have hlook : ∀ W, NumE W m (numM L) → (Instr.lookup 145 (.map (some m)) (pval p) true).run Proofs.Try.prog W = .ok (match alook (numM L) p with
      | some v => .tuple #[.int .i64 v, .bool true]
      | none => .tuple #[.int .i64 0, .bool false]) W := fun W hW => by
    have := MapE.lookup agree pairKeyed (t := 145) rfl rfl rfl hW p hk true
    refine this.trans ?_
    cases alook (numM L) p <;> rfl
  have hal := numFrom_look (p := p) L 0
  by_cases hp : p ∈ L
  · rw [if_pos hp, Nat.zero_add] at hal
    refine drawn0 agree mixed 11 (by kernel_rfl) (fun _ => False) ?_
    conv => whnf
    refine ldk agree rfl rfl (fun W hW _ => Own.at_ (xs := [.map (some m)]) (o := 0) (hW.own hdr id) rfl) (by rfl) fun _ => ?_
    conv => whnf
    refine ldk (v := pval p) agree rfl rfl (fun W hW _ => Own.at_ (xs := pcells p) (o := 0) (hW.own mq id) rfl) (by rfl) fun _ => ?_
    conv => whnf
    refine lkr (v := .tuple #[.int .i64 (L.idxOf p : Nat), .bool true]) (preChg _) rfl (fun W hW _ => by have := hlook W (hmap.chg hW id); rw [hal] at this; exact this) fun _ => ?_
    conv => whnf
    intro W hW _
    have kW := k1.trans hW
    refine ⟨congrArg (fun i : Nat => Value.int .i64 (i : Int)) (numOf_mem hp).symm, v, ?_, kW.mono fun _ hf => hf.elim, fun g hg => .inl hg, by have := hW.size; omega⟩
    rw [numL_mem hp]
    exact h.chg kW id id fun _ _ => id
  rw [if_neg hp] at hal
  refine drawn0 agree mixed 11 (by kernel_rfl) (fun _ => False) ?_
  conv => whnf
  refine ldk agree rfl rfl (fun W hW _ => Own.at_ (xs := [.map (some m)]) (o := 0) (hW.own hdr id) rfl) (by rfl) fun _ => ?_
  conv => whnf
  refine ldk (v := pval p) agree rfl rfl (fun W hW _ => Own.at_ (xs := pcells p) (o := 0) (hW.own mq id) rfl) (by rfl) fun _ => ?_
  conv => whnf
  refine lkr (v := .tuple #[.int .i64 0, .bool false]) (preChg _) rfl (fun W hW _ => by have := hlook W (hmap.chg hW id); rw [hal] at this; exact this) fun _ => ?_
  conv => whnf
  intro w2 k2 _
  have k12 := k1.trans k2
  have hdr := k2.own hdr id
  have mq := k2.own mq id
  have hmap := hmap.chg k2 id
  have hrow := ownsRow_chg hrow k2 fun _ _ => id
  have hf := ownsRow_form hrow
  obtain ⟨va, vc, rfl⟩ := hf
  refine ld agree (Own.at_ (xs := [.slice va L.length vc]) (o := 1) hdr rfl) (by rfl) ?_
  refine drawn0 agree mixed 6 (by kernel_rfl) (fun _ => False) ?_
  conv => whnf
  refine ldk agree rfl rfl (fun W hW _ => Own.at_ (xs := [.map (some m)]) (o := 0) (hW.own hdr id) rfl) (by rfl) fun _ => ?_
  conv => whnf
  refine ldk (v := pval p) agree rfl rfl (fun W hW _ => Own.at_ (xs := pcells p) (o := 0) (hW.own mq id) rfl) (by rfl) fun _ => ?_
  conv => whnf
  intro w3 k3 _
  have k13 := k12.trans k3
  have hdr := k3.own hdr id
  have mq := k3.own mq id
  have hmap := hmap.chg k3 id
  have hrow := ownsRow_chg hrow k3 fun _ _ => id
  have hup := MapE.update agree pairKeyed (t := 145) rfl rfl hmap p ((L.length : Nat) : Int) hk
  refine mu hup ?_
  rintro w4 ⟨hmap4, z4, c4⟩
  have hput : aput (numM L) p ((L.length : Nat) : Int) = numM (L ++ [p]) := by
    rw [numM, numM, numFrom_snoc, Nat.zero_add, aput_new fun y hy he => hp (by
      have : y.1 ∈ (numFrom 0 L).map (·.1) := List.mem_map.2 ⟨y, hy, rfl⟩
      rw [numFrom_keys, he] at this
      exact this)]
  rw [hput] at hmap4
  obtain ⟨es, clock, hms, -⟩ := hmap.h
  have nb : b ≠ m := hmap.ne hdr
  have nq : q ≠ m := hmap.ne mq
  have nv : ∀ g, (Value.slice va L.length vc).ownBlock = some g → ¬ g = m := fun g hg he => by
    subst he
    exact ownsRow_ne hrow hms (fun cs fr hh => by cases hh) hg
  have hdr := c4.own hdr nb
  have mq := c4.own mq nq
  have hrow := ownsRow_chg hrow c4 nv
  obtain ⟨es4, clock4, hms4, -⟩ := id hmap4.h
  have hne_m : some m ≠ (Value.slice va L.length vc).ownBlock := fun he => nv m he.symm rfl
  have hne_b : some b ≠ (Value.slice va L.length vc).ownBlock := fun he => ownsRow_ne hrow hdr (fun cs fr hh => by injection hh with _ h2; exact absurd h2 (by decide)) he.symm
  have hz := k13.size
  have hlt0 : ∀ g, (Value.slice va L.length vc).ownBlock = some g → g < w.heap.size := fun g hg => (h.row.lt g hg).2
  have hne_q : some q ≠ (Value.slice va L.length vc).ownBlock := fun he => by have := hlt0 q he.symm; omega
  have hlt : ∀ g, (Value.slice va L.length vc).ownBlock = some g → g < w4.heap.size := fun g hg => (hrow.lt g hg).2
  have hpre := preAppR w4 (.slice va L.length vc) (L.length * 2) (pcells p)
  refine drawnR agree mixed 10 (by kernel_rfl) _ hpre ?_
  conv => whnf
  refine ldr hpre agree rfl rfl (fun W hW _ => hW.chg.range (Own.at_ (xs := [.slice va L.length vc]) (o := 1) hdr rfl) hne_b) (by rfl) fun _ => ?_
  conv => whnf
  refine ldr (v := pval p) hpre agree rfl rfl (fun W hW _ => hW.chg.range (Own.at_ (xs := pcells p) (o := 0) mq rfl) hne_q) (by rfl) fun _ => ?_
  conv => whnf
  refine bsr hpre rfl rfl rfl rfl rfl (by decide) (fun b o W W' hb ho hS => hS.chg.heap ho fun hc => by have := hlt b hc.symm; omega) (fun W hS => hS.chg.size) fun q2 D hD => ?_
  conv => whnf
  refine apr (m := 1) (news := pcells p) agree rfl rfl rfl rfl rfl rfl rfl (by decide) hrow rfl (fun W hS hDn => Own.at_ (xs := pcells p) (o := 0) (hD W (hDn 6 (by kernel_rfl))).1 rfl) rfl (by simp only [maxLen]; omega) (by show (L.length + 1) * 16 ≤ _; omega) (by have := h.base; have := c4.size; omega) fun v' D2 hD2 => ?_
  conv => whnf
  intro w5 hS5 hd5
  have hD5 := hD2 w5 (hd5 7)
  obtain ⟨hown, hnew⟩ := hD5
  have hf5 := ownsRow_form hown
  obtain ⟨vb, vd, rfl⟩ := hf5
  have hdr5 := hS5.chg.own hdr hne_b
  refine st agree hdr5 rfl (show 2 ≤ 3 by decide) rfl ?_
  intro w6 z6 c6 hdr6
  have hdr6 : Own w6 b 148 [.map (some m), .slice vb (L.length + 1) vd, .bool false] := hdr6
  refine ld agree (Own.at_ (xs := [.bool false]) (o := 2) hdr6 rfl) (by rfl) ?_
  refine ld agree (Own.at_ (xs := [.slice vb (L.length + 1) vd]) (o := 1) hdr6 rfl) (by rfl) ?_
  refine spF (by omega) ?_
  refine st agree hdr6 rfl (show 3 ≤ 3 by decide) rfl ?_
  intro w7 z7 c7 hdr7
  have hdr7 : Own w7 b 148 [.map (some m), .slice vb (L.length + 1) vd, .bool false] := hdr7
  have hm5 := hmap4.chg hS5.chg hne_m
  have hm6 := hm5.chg c6 (Ne.symm nb)
  have hm7 := hm6.chg c7 (Ne.symm nb)
  have hnb5 : ∀ g, (Value.slice vb (L.length + 1) vd).ownBlock = some g → ¬ g = b := fun g hg he => by
    subst he
    exact ownsRow_ne hown hdr5 (fun cs fr hh => by injection hh with _ h2; exact absurd h2 (by decide)) hg
  have hrow7 := ownsRow_chg (ownsRow_chg hown c6 hnb5) c7 hnb5
  refine ⟨congrArg (fun i : Nat => Value.int .i64 (i : Int)) (numOf_new hp).symm, .slice vb (L.length + 1) vd, ?_, ?_, ?_, by have := k13.size; have := k3.size; have := k2.size; have := c4.size; have := hS5.chg.size; have := c6.size; have := c7.size; omega⟩
  · rw [numL_new hp]
    refine ⟨hdr7, hm7, ?_, by have := h.base; have := c4.size; have := hS5.chg.size; have := c6.size; have := c7.size; omega, numL_new hp ▸ numL_nodup h.nd⟩
    rw [List.length_append, List.flatMap_append]
    exact hrow7
  · have d1 : Chg (fun k => k = b ∨ k = m ∨ some k = (Value.slice va L.length vc).ownBlock) w w3 := k13.mono fun _ hf => hf.elim
    have d2 : Chg (fun k => k = b ∨ k = m ∨ some k = (Value.slice va L.length vc).ownBlock) w3 w4 := c4.mono fun _ h => .inr (.inl h)
    have d3 : Chg (fun k => k = b ∨ k = m ∨ some k = (Value.slice va L.length vc).ownBlock) w4 w5 := hS5.chg.mono fun _ h => .inr (.inr h)
    have d4 : Chg (fun k => k = b ∨ k = m ∨ some k = (Value.slice va L.length vc).ownBlock) w5 w6 := c6.mono fun _ h => .inl h
    have d5 : Chg (fun k => k = b ∨ k = m ∨ some k = (Value.slice va L.length vc).ownBlock) w6 w7 := c7.mono fun _ h => .inl h
    exact (((d1.trans d2).trans d3).trans d4).trans d5
  · intro g hg
    exact (hnew g hg).imp id fun h => by have := c4.size; omega
end Go.Au

namespace Go.Au
open Go Go.RowKit Go.MapKept
open Go.Maps (Keyed)

def fromS (es : List Edge) (s : Int) : List Edge := es.filter fun e => decide (e.frm = s)
def succOf (es : List Edge) (x : Word) (at_ : Nat) : List Place := (es.filter fun e => goesS e (x.at at_)).map fun e => (e.to, x.behind at_)
def succ (g : General) (x : Word) (p : Place) : List Place := succOf (fromS g.edges p.1) x p.2.toNat

/-- an automaton that is right -/
structure Good (g : General) : Prop where
  s0 : 0 ≤ g.states
  s1 : g.states ≤ 65536
  init : ∀ s ∈ g.init, 0 ≤ s ∧ s < g.states
  edges : ∀ e ∈ g.edges, 0 ≤ e.frm ∧ e.frm < g.states ∧ 0 ≤ e.to ∧ e.to < g.states
  sets : ∀ l ∈ g.sets, ∀ s ∈ l, 0 ≤ s ∧ s < g.states

theorem rising_range {n : Int} : ∀ {l : List Int} {p : Option Int}, risingFrom n p l = true → ∀ s ∈ l, 0 ≤ s ∧ s < n
  | [], _, _, s, h => by simp at h
  | x :: r, p, h, s, hs => by
    simp only [risingFrom, Bool.and_eq_true, Bool.not_eq_true', Bool.or_eq_false_iff, decide_eq_false_iff_not] at h
    rcases List.mem_cons.1 hs with rfl | hs
    · omega
    · exact rising_range h.2 s hs
theorem edgesGo_range {n k : Int} : ∀ {l : List Edge} {p : Option Edge}, edgesGo n k p l = true → ∀ e ∈ l, 0 ≤ e.frm ∧ e.frm < n ∧ 0 ≤ e.to ∧ e.to < n
  | [], _, _, s, h => by simp at h
  | x :: r, p, h, e, he => by
    simp only [edgesGo, Bool.and_eq_true] at h
    rcases List.mem_cons.1 he with rfl | he
    · have h1 := rising_range h.1 e.frm (by simp)
      have h2 := rising_range h.2.1 e.to (by simp)
      exact ⟨h1.1, h1.2, h2.1, h2.2⟩
    · exact edgesGo_range h.2.2.2.2.2.2 e he
theorem Good.of {g : General} (h : checkS g = true) : Good g := by
  simp only [checkS, Bool.and_eq_true, Bool.not_eq_true', decide_eq_false_iff_not] at h
  obtain ⟨⟨⟨⟨⟨h1, h2⟩, h3⟩, h4⟩, h5⟩, h6⟩ := h
  exact ⟨by omega, by omega, rising_range h4, edgesGo_range h5, fun l hl s hs => rising_range (List.all_eq_true.1 h6 l hl) s hs⟩

theorem wordOk_loop {x : Word} {n : Nat} (h : wordOk x n = true) : x.loop.length ≠ 0 := by
  simp only [wordOk, Bool.and_eq_true, Bool.not_eq_true', decide_eq_false_iff_not] at h
  exact h.1.1
theorem places_pos {x : Word} (h : x.loop.length ≠ 0) : 0 < x.places ∧ x.stem.length < x.places ∧ x.places = x.stem.length + x.loop.length := by
  unfold Word.places; rw [if_neg h]; omega
theorem behind_lt {x : Word} (h : x.loop.length ≠ 0) {i : Nat} (hi : i < x.places) : 0 ≤ x.behind i ∧ x.behind i < x.places := by
  have := places_pos h
  unfold Word.behind
  rw [if_neg (by omega)]
  split <;> omega

def InBox (g : General) (x : Word) (p : Place) : Prop := 0 ≤ p.1 ∧ p.1 < g.states ∧ 0 ≤ p.2 ∧ p.2 < x.places
theorem succ_box {g : General} {x : Word} (hg : Good g) (hx : x.loop.length ≠ 0) {p : Place} (hp : InBox g x p) : ∀ q ∈ succ g x p, InBox g x q := by
  intro q hq
  simp only [succ, succOf, fromS, List.mem_map, List.mem_filter] at hq
  obtain ⟨e, ⟨⟨he, -⟩, -⟩, rfl⟩ := hq
  have h1 := hg.edges e he
  obtain ⟨_, _, h2, h3⟩ := hp
  have h4 := behind_lt hx (i := p.2.toNat) (by omega)
  exact ⟨h1.2.2.1, h1.2.2.2, h4.1, h4.2⟩

/-- what is reached -/
structure AllOf (g : General) (x : Word) (all : List Place) : Prop where
  nodup : all.Nodup
  init : ∀ s ∈ g.init, (s, 0) ∈ all
  closed : ∀ p ∈ all, ∀ q ∈ succ g x p, q ∈ all
  least : ∀ X : Place → Prop, (∀ s ∈ g.init, X (s, 0)) → (∀ p q, X p → q ∈ succ g x p → X q) → ∀ p ∈ all, X p
theorem AllOf.box {g : General} {x : Word} {all : List Place} (h : AllOf g x all) (hg : Good g) (hx : x.loop.length ≠ 0) : ∀ p ∈ all, InBox g x p :=
  h.least _ (fun s hs => by
    have := hg.init s hs
    have := places_pos hx
    exact ⟨by simp; omega, by simp; omega, by simp, by simp; omega⟩) (fun p q hp hq => succ_box hg hx hp q hq)
theorem box_len {g : General} {x : Word} {all : List Place} (hn : all.Nodup) (hg : Good g) (h : ∀ p ∈ all, InBox g x p) : all.length ≤ g.states.toNat * x.places :=
  nodup_box hn fun p hp => by obtain ⟨a, b, c, d⟩ := h p hp; exact ⟨a, by have := hg.s0; omega, c, d⟩

theorem Bag.lookRow {w : World} {base size : Nat} {el : TypeId} {pre : List (Value × List Value)} {α : Type} [DecidableEq α] {nl : List (α × Value)} {F : α → List Value} (h : Bag w base el size (pre ++ nl.map fun p => (p.2, F p.1))) (hz : ∀ a, alook nl a = none → F a = []) (a : α) : ∃ n, w.ownsRow base el size (aget nl nilS a) n (F a) := by
  unfold aget
  cases hl : alook nl a with
  | none => rw [hz a hl]; exact ⟨0, World.ownsRow_nil _ _ _ _⟩
  | some v => exact h.own (v, F a) (List.mem_append_right _ (List.mem_map.2 ⟨(a, v), alook_some_mem hl, rfl⟩))

theorem RowE.and {α : Type} {E : World → List Value → α → Prop} {Q : α → Prop} {size lo hi : Nat} {w : World} {v : Value} {xs : List α} (h : RowE E size lo hi w v xs) (hq : ∀ x ∈ xs, Q x) : RowE (fun w cs x => E w cs x ∧ Q x) size lo hi w v xs := by
  obtain ⟨a, cap, hv, hc, h⟩ := h
  refine ⟨a, cap, hv, hc, fun i x hx => ?_⟩
  obtain ⟨b, o, ha, hlo, hhi, cs, hl, hr, he⟩ := h i x hx
  exact ⟨b, o, ha, hlo, hhi, cs, hl, hr, he, hq x (List.mem_of_getElem? hx)⟩

/-- edges by the state from which they go, under way -/
structure ByV (w : World) (base bb n : Nat) (vs : List Value) (es : List Edge) : Prop where
  len : vs.length = n
  mb : Own w bb 25 vs
  bag : Bag w base 52 4 ((List.range n).map fun (s : Nat) => (vs.getD s nilS, (fromS es s).flatMap Edge.cells))

theorem fromS_snoc (es : List Edge) (e : Edge) (s : Int) : fromS (es ++ [e]) s = if e.frm = s then fromS es s ++ [e] else fromS es s := by
  simp only [fromS, List.filter_append]
  split
  · rename_i h; simp [h]
  · rename_i h; simp [h]

theorem ByV.set {w w' w'' : World} {base bb n : Nat} {vs : List Value} {es : List Edge} (h : ByV w base bb n vs es) {e : Edge} {f : Nat} (hf : e.frm = (f : Int)) (hfn : f < n) {v' : Value} {n' : Nat} (hb : base ≤ bb)
    (hc : Chg (fun k => some k = (vs.getD f nilS).ownBlock) w w') (hv : w'.ownsRow base 52 4 v' n' ((fromS es f).flatMap Edge.cells ++ e.cells)) (hnew : ∀ g, v'.ownBlock = some g → (vs.getD f nilS).ownBlock = some g ∨ w.heap.size ≤ g)
    (hc2 : Chg (fun k => k = bb) w' w'') (hm : Own w'' bb 25 (vs.set f v')) : ByV w'' base bb n (vs.set f v') (es ++ [e]) := by
  refine ⟨by simp [h.len], hm, ?_⟩
  have hi : ((List.range n).map fun (s : Nat) => (vs.getD s nilS, (fromS es s).flatMap Edge.cells))[f]? = some (vs.getD f nilS, (fromS es f).flatMap Edge.cells) := by simp [hfn]
  have hb1 := h.bag.set hi hc (fun b hb => .inl hb) hv hnew
  have heq : (List.range n).map (fun (s : Nat) => ((vs.set f v').getD s nilS, (fromS (es ++ [e]) s).flatMap Edge.cells)) = ((List.range n).map fun (s : Nat) => (vs.getD s nilS, (fromS es s).flatMap Edge.cells)).set f (v', (fromS es f).flatMap Edge.cells ++ e.cells) := by
    apply List.ext_getElem?
    intro i
    rw [List.getElem?_set]
    simp only [List.getElem?_map, List.length_map, List.length_range]
    by_cases hin : i < n
    · rw [List.getElem?_range hin]
      simp only [Option.map_some]
      rw [fromS_snoc, hf]
      by_cases hif : f = i
      · subst hif
        rw [if_pos rfl, if_pos rfl, if_pos hin]
        simp [h.len, hin]
      · rw [if_neg hif, if_neg (by omega)]
        simp [List.getElem?_set, hif]
    · rw [List.getElem?_eq_none (by simpa using hin)]
      by_cases hif : f = i
      · omega
      · rw [if_neg hif]; rfl
  rw [heq]
  have hm' : ∀ x ∈ ((List.range n).map fun (s : Nat) => (vs.getD s nilS, (fromS es s).flatMap Edge.cells)).set f (v', (fromS es f).flatMap Edge.cells ++ e.cells), x.1.ownBlock ≠ some bb := by
    refine hb1.ne (o := .cells vs.toArray 25 (0, 0)) ?_ (fun cs fr hh => by injection hh with _ h2; exact absurd h2 (by decide))
    refine hc.heap h.mb fun he => ?_
    exact h.bag.ne h.mb (fun cs fr hh => by injection hh with _ h2; exact absurd h2 (by decide)) _ (List.mem_of_getElem? hi) he.symm
  exact hb1.chg hc2 fun x hx b hb2 hs => by subst hs; exact hm' x hx hb2

abbrev EdgeRows (lo hi : Nat) := RowE (fun w cs (xs : List Edge) => ∃ u, cs = [u] ∧ Edges lo hi w u xs) 1 lo hi
theorem ByV.row {w : World} {base bb n : Nat} {vs : List Value} {es : List Edge} (h : ByV w base bb n vs es) (hb : base ≤ bb) (hwf : ∀ e ∈ es, e.wf) : EdgeRows base w.heap.size w (.slice (some ⟨bb, 0, none⟩) n n) ((List.range n).map fun (s : Nat) => fromS es s) := by
  have hlt := h.mb.lt
  refine row1R h.mb (fun i x hx => ?_) (by simp) (by simp) hb hlt
  rw [List.getElem?_map] at hx
  have hin : i < n := by
    rcases Nat.lt_or_ge i n with h1 | h1
    · exact h1
    · rw [List.getElem?_eq_none (by simpa using h1)] at hx; cases hx
  rw [List.getElem?_range hin] at hx
  simp only [Option.map_some, Option.some.injEq] at hx
  subst hx
  have hv : vs[i]? = some (vs.getD i nilS) := by simp [List.getD_eq_getElem?_getD, h.len, hin]
  obtain ⟨m, hm⟩ := h.bag.own (vs.getD i nilS, (fromS es i).flatMap Edge.cells) (List.mem_map.2 ⟨i, by simpa using hin, rfl⟩)
  exact ⟨_, hv, _, rfl, (ownsRow_row (f := Edge.cells) (fun _ => rfl) hm (by decide)).and fun e he => hwf e (List.mem_filter.1 he).1⟩
end Go.Au

namespace Go.Au
open Go Go.RowKit Go.MapKept
open Go.Maps (Keyed)

/-! ### edges by the state from which they go -/
structure FromV (w : World) (lo hi lb bb n : Nat) (es : List Edge) : Prop where
  box : Own w lb 130 [.slice (some ⟨bb, 0, none⟩) n n]
  by_ : ∃ vs, ByV w lo bb n vs es ∧ ∀ s, s < n → ∀ g, (vs.getD s nilS).ownBlock = some g → g < hi
  at_ : lo ≤ bb ∧ bb < hi
  wf : ∀ e ∈ es, e.wf
theorem edges_kp {w w' : World} {lo hi lo' hi' : Nat} {v : Value} {es : List Edge} (h : Edges lo hi w v es) (k : Kp w w') (h1 : lo' ≤ lo) (h2 : hi ≤ hi') : Edges lo' hi' w' v es := (h.chg k (fun _ _ _ h => h) (fun _ _ h => h)).mono (fun _ _ h => h) h1 h2
/-- where nothing of it has turned, whatever else has -/
theorem FromV.same {w w' : World} {lo hi lb bb n : Nat} {es : List Edge} (h : FromV w lo hi lb bb n es) (hlb : w'.heap[lb]? = w.heap[lb]?) (hS : ∀ b cur t, lo ≤ b → b < hi → w.heap[b]? = some (.cells cur t (0, 0)) → t = 52 ∨ t = 25 → w'.heap[b]? = w.heap[b]?) : FromV w' lo hi lb bb n es := by
  obtain ⟨vs, hb, hlt⟩ := h.by_
  refine ⟨hlb.trans h.box, ⟨vs, ⟨hb.len, (hS bb _ _ h.at_.1 h.at_.2 hb.mb (.inr rfl)).trans hb.mb, ⟨fun x hx => ?_, hb.bag.sep⟩⟩, hlt⟩, h.at_, h.wf⟩
  obtain ⟨s, hs, rfl⟩ := List.mem_map.1 hx
  obtain ⟨m, ho⟩ := hb.bag.own _ hx
  have hsn : s < n := by simpa using hs
  refine ⟨m, ho.1, ho.2.imp id fun ⟨g, cap, cur, a1, a2, a3, a4⟩ => ⟨g, cap, cur, a1, a2, ?_, a4⟩⟩
  have hg : (vs.getD s nilS).ownBlock = some g := by
    have : (vs.getD s nilS) = _ := a1
    rw [this]; rfl
  exact (hS g cur _ a2 (hlt s hsn g hg) a3 (.inl rfl)).trans a3
theorem FromV.kp {w w' : World} {lo hi lb bb n : Nat} {es : List Edge} (h : FromV w lo hi lb bb n es) (k : Kp w w') : FromV w' lo hi lb bb n es := by
  have h1 : w'.heap[lb]? = w.heap[lb]? := k.block lb h.box.lt id
  exact h.same h1 fun b cur t _ _ hb _ => k.block b (lt_of_heap hb) id
theorem FromV.chg {S : Nat → Prop} {w w' : World} {lo hi lb bb n : Nat} {es : List Edge} (h : FromV w lo hi lb bb n es) (k : Chg S w w') (hl : ¬ S lb) (hS : ∀ b, lo ≤ b → b < hi → ¬ S b) : FromV w' lo hi lb bb n es := by
  have h1 : w'.heap[lb]? = w.heap[lb]? := k.block lb h.box.lt hl
  exact h.same h1 fun b cur t h2 h3 hb _ => k.block b (lt_of_heap hb) (hS b h2 h3)
theorem FromV.mono {w : World} {lo hi lo' hi' lb bb n : Nat} {es : List Edge} (h : FromV w lo hi lb bb n es) (h1 : lo' ≤ lo) (h2 : hi ≤ hi') : FromV w lo' hi' lb bb n es := by
  obtain ⟨vs, hb, hlt⟩ := h.by_
  refine ⟨h.box, ⟨vs, ⟨hb.len, hb.mb, ⟨fun x hx => ?_, hb.bag.sep⟩⟩, fun s hs g hg => by have := hlt s hs g hg; omega⟩, ⟨by have := h.at_; omega, by have := h.at_; omega⟩, h.wf⟩
  obtain ⟨m, ho⟩ := hb.bag.own x hx
  exact ⟨m, ho.1, ho.2.imp id fun ⟨g, cap, cur, a1, a2, a3⟩ => ⟨g, cap, cur, a1, by omega, a3⟩⟩

theorem callBy1 : callable Proofs.Try.prog 111 = true := by kernel_rfl
theorem by1_c {w : World} {lo hi lb bb n s : Nat} {es : List Edge} (h : FromV w lo hi lb bb n es) (hs : s < n) :
    Calls Proofs.Try.prog 111 [.int .i64 s, pt lb 0].toArray w (Ret fun r w' => Kp w w' ∧ Edges lo hi w r (fromS es s)) := by
  refine call agree Proofs.Try.func111 rfl Proofs.Try.ntmps111 (by kernel_rfl) ?_
  obtain ⟨vs, hb, hlt⟩ := h.by_
  obtain ⟨m, ho⟩ := hb.bag.own (vs.getD s nilS, (fromS es s).flatMap Edge.cells) (List.mem_map.2 ⟨s, by simpa using hs, rfl⟩)
  have hm : m = (fromS es s).length := by
    have := ho.1
    rw [flat_len (size := 4) (fun e => rfl)] at this
    omega
  subst hm
  have hltb := hlt s hs
  have hvs : vs[s]? = some (vs.getD s nilS) := by simp [List.getD_eq_getElem?_getD, hb.len, hs]
  have hrow := ownsRow_row (f := Edge.cells) (fun _ => rfl) ho (by decide)
  obtain ⟨ua, uc, hu⟩ := ownsRow_form ho
  obtain ⟨v, hv⟩ : ∃ v, v = vs.getD s nilS := ⟨_, rfl⟩
  rw [← hv] at hvs hrow hu hltb
  subst hu
  refine ld agree (Own.at_ (xs := [.slice (some ⟨bb, 0, none⟩) n n]) (o := 0) h.box rfl) (by rfl) ?_
  refine ne ⟨by omega, by omega⟩ ?_
  refine ld (v := .slice ua (fromS es s).length uc) agree (by rw [Int.toNat_natCast]; exact Own.one hb.mb hvs (by show 0 + s * 1 = s; omega)) (by rfl) ?_
  refine ⟨Chg.refl _ _, ?_⟩
  obtain ⟨a, c, e1, hc, hr⟩ := hrow
  injection e1 with e1 _ e2
  subst e1 e2
  refine ⟨ua, uc, rfl, hc, fun i x hx => ?_⟩
  obtain ⟨b, o, hb1, hb2, hb3, cs, hb4, hb5, hb6⟩ := hr i x hx
  subst hb1
  exact ⟨b, o, rfl, hb2, hltb b rfl, cs, hb4, hb5, hb6, h.wf x (List.mem_filter.1 (List.mem_of_getElem? hx)).1⟩

theorem callBy : callable Proofs.Try.prog 81 = true := by kernel_rfl
set_option maxHeartbeats 1000000 in
theorem by_c {w : World} {ev : Value} {n : Nat} {es : List Edge} (hv : Edges 0 w.heap.size w ev es) (hn : n ≤ 65536) (hE : es.length < 1099511627776) (hr : ∀ e ∈ es, 0 ≤ e.frm ∧ e.frm < n) :
    Calls Proofs.Try.prog 81 [.int .i64 n, ev].toArray w (Ret fun r w' => Kp w w' ∧ ∃ lb bb, r = .func (.func 111) #[] #[pt lb 0] ∧ w.heap.size ≤ lb ∧ FromV w' w.heap.size w'.heap.size lb bb n es) := by
  obtain ⟨ea, ec, rfl, hec, hedges⟩ := id hv
  refine call agree Proofs.Try.func81 rfl Proofs.Try.ntmps81 (by kernel_rfl) ?_
  refine ms agree rfl rfl rfl rfl rfl rfl (by omega) (Int.le_refl _) (by show (24 : Int) * _ ≤ _; omega) (by omega) fun bb w1 e1 s1 k1 m1 => ?_
  have m1 : Own w1 bb 25 (rep [nilS] n) := m1
  refine nd fun lb w2 e2 s2 k2 m2 => ?_
  refine st agree m2 rfl (Nat.le_refl 1) rfl ?_
  intro w3 s3 k3 m3
  have m3 : Own w3 lb 130 [.slice (some ⟨bb, 0, none⟩) n n] := m3
  have k13 : Kp w1 w3 := k2.new e2 k3
  have k03 : Kp w w3 := k1.trans k13
  have hrep : ∀ n, rep [nilS] n = List.replicate n nilS := by
    intro n
    induction n with
    | zero => rfl
    | succ n ih => simp [rep, ih, List.replicate_succ]
  have hby0 : ByV w3 bb bb n (rep [nilS] n) [] := by
    refine ⟨by simp [hrep], k13.own m1 id, ⟨fun y hy => ?_, ?_⟩⟩
    · obtain ⟨s, hs, rfl⟩ := List.mem_map.1 hy
      refine ⟨0, ?_⟩
      simp only [hrep, fromS, List.filter_nil, List.flatMap_nil]
      have : (List.replicate n nilS).getD s nilS = nilS := by simp [List.getD_eq_getElem?_getD, List.getElem?_replicate]; split <;> rfl
      rw [this]
      exact World.ownsRow_nil _ _ _ _
    · rw [List.pairwise_map]
      refine List.pairwise_of_forall fun a b c hc => ?_
      have : (rep [nilS] n).getD a nilS = nilS := by simp [hrep, List.getD_eq_getElem?_getD, List.getElem?_replicate]; split <;> rfl
      simp only [this, Value.ownBlock] at hc
      cases hc
  have hbb : bb < lb := by omega
  refine loop agree (σ := Nat × List Value) (fun t => [(5, pt lb 0), (10, .slice ea es.length ec), (11, .int .i64 es.length), (12, .int .i64 t.1)])
    (fun t w' => t.1 ≤ es.length ∧ Kp w w' ∧ ByV w' bb bb n t.2 (es.take t.1) ∧ Own w' lb 130 [.slice (some ⟨bb, 0, none⟩) n n]) (fun t => es.length - t.1) (0, rep [nilS] n)
    ⟨rfl, rfl, rfl, rfl, trivial⟩ ⟨by omega, k03, by simpa using hby0, m3⟩ ?_
  rintro ⟨i, vs⟩ env w8 ⟨hi, k08, hby, m8⟩
  refine sp (fun hlt => ?_) (fun hge => ?_)
  · have hi' : i < es.length := by simp only at hlt; omega
    obtain ⟨b, o, rfl, hlo, hhi, cs, hcs, hrd, rfl, hwf⟩ := hedges i es[i] (by simp)
    have her := hr es[i] (by simp)
    obtain ⟨f, hf⟩ : ∃ f : Nat, es[i].frm = f := ⟨es[i].frm.toNat, by omega⟩
    have hfn : f < n := by omega
    refine ne ⟨by omega, hlt⟩ ?_
    refine ld agree (v := es[i].val) (k08.range hrd id) rfl ?_
    refine nd fun q w9 e9 s9 k9 m9 => ?_
    refine st agree (cs := [.int .i64 0, .int .i64 0, .int .u16 0, .int .u16 0]) m9 rfl (Nat.le_refl 4) rfl ?_
    intro w10 s10 k10 m10
    have m10 : Own w10 q 52 es[i].cells := m10
    have k810 : Kp w8 w10 := k9.new e9 k10
    have hmb := k810.own hby.mb id
    have m8' := k810.own m8 id
    have hbag := hby.bag.kp k810
    obtain ⟨m, hrow⟩ := hbag.own (vs.getD f nilS, (fromS (es.take i) f).flatMap Edge.cells) (List.mem_map.2 ⟨f, by simpa using hfn, rfl⟩)
    have hm : m = (fromS (es.take i) f).length := by
      have := hrow.1
      rw [flat_len (size := 4) (fun e => rfl)] at this
      omega
    subst hm
    have hml : (fromS (es.take i) f).length ≤ i := by
      have h1 := List.length_filter_le (fun e : Edge => decide (e.frm = (f : Int))) (es.take i)
      simp only [List.length_take] at h1
      unfold fromS
      omega
    have hltB : ∀ k, (vs.getD f nilS).ownBlock = some k → k < w10.heap.size := fun k hk => (hrow.lt k hk).2
    have hltB8 : ∀ k, (vs.getD f nilS).ownBlock = some k → k < w8.heap.size := fun k hk => (hby.bag.lt _ (List.mem_map.2 ⟨f, by simpa using hfn, rfl⟩) k hk).2
    have hnq : some q ≠ (vs.getD f nilS).ownBlock := fun he => by have := hltB8 q he.symm; omega
    have hnb : some bb ≠ (vs.getD f nilS).ownBlock := fun he => ownsRow_ne hrow hmb (fun cs fr hh => by injection hh with _ h2; exact absurd h2 (by decide)) he.symm
    have hnl : some lb ≠ (vs.getD f nilS).ownBlock := fun he => ownsRow_ne hrow m8' (fun cs fr hh => by injection hh with _ h2; exact absurd h2 (by decide)) he.symm
    have hvf : vs[f]? = some (vs.getD f nilS) := by simp [List.getD_eq_getElem?_getD, hby.len, hfn]
    obtain ⟨va, vc, hvs⟩ := ownsRow_form hrow
    have hpre := preAppR w10 (vs.getD f nilS) ((fromS (es.take i) f).length * 4) es[i].cells
    refine drawnR agree mixed 12 (by kernel_rfl) _ hpre ?_
    conv => whnf
    refine ldr hpre agree rfl rfl (fun W h _ => h.chg.range (Own.at_ (xs := [.slice (some ⟨bb, 0, none⟩) n n]) (o := 0) m8' rfl) hnl) (by rfl) fun _ => ?_
    conv => whnf
    refine ldr hpre agree rfl rfl (fun W h _ => h.chg.range (Own.at_ (xs := [.int .i64 es[i].frm]) m10 rfl) hnq) (by rfl) fun _ => ?_
    conv => whnf
    refine ldr hpre agree rfl rfl (fun W h _ => h.chg.range (Own.at_ (xs := [.slice (some ⟨bb, 0, none⟩) n n]) (o := 0) m8' rfl) hnl) (by rfl) fun _ => ?_
    conv => whnf
    refine ldr hpre agree rfl rfl (fun W h _ => h.chg.range (Own.at_ (xs := [.int .i64 es[i].frm]) m10 rfl) hnq) (by rfl) fun _ => ?_
    conv => whnf
    refine ne ⟨by omega, by omega⟩ ?_
    conv => whnf
    refine ldr (v := vs.getD f nilS) hpre agree rfl rfl (fun W h _ => h.chg.range (Own.one hmb hvf (by show 0 + es[i].frm.toNat * 1 = f; omega)) hnb) (by rfl) fun _ => ?_
    conv => whnf
    refine ldr (v := es[i].val) hpre agree rfl rfl (fun W h _ => h.chg.range (Own.at_ (xs := es[i].cells) (o := 0) m10 rfl) hnq) (by rfl) fun _ => ?_
    conv => whnf
    refine bsr hpre rfl rfl rfl rfl rfl (by decide) (fun b o W W' hb ho hS => hS.chg.heap ho fun hc => by have := hltB b hc.symm; omega) (fun W hS => hS.chg.size) fun q2 D hD => ?_
    conv => whnf
    refine apr (m := 1) (news := es[i].cells) agree rfl rfl rfl rfl rfl rfl rfl (by decide) hrow rfl (fun W hS hDn => Own.at_ (xs := es[i].cells) (o := 0) (hD W (hDn 9 (by kernel_rfl))).1 rfl) rfl (by simp only [maxLen]; omega) (by show (_ + 1) * 24 ≤ _; omega) (by have := k810.size; have := hby.mb.lt; omega) fun v' D2 hD2 => ?_
    conv => whnf
    refine ne ⟨by omega, by omega⟩ ?_
    conv => whnf
    intro W hS hDn
    obtain ⟨hown', hnew⟩ := hD2 W (hDn 10)
    have hmbW := hS.chg.own hmb hnb
    obtain ⟨a', cap', rfl⟩ := ownsRow_form hown'
    refine st agree hmbW (by rfl) ?_ rfl ?_
    · show 0 + es[i].frm.toNat * 1 + 1 ≤ vs.length
      rw [hby.len]; omega
    intro w11 s11 k11 m11
    refine aw (by omega) (by omega) ?_
    have hlay : lay vs (0 + es[i].frm.toNat * 1) (cellsL (.slice a' ((fromS (es.take i) f).length + 1) cap')) = vs.set f (.slice a' ((fromS (es.take i) f).length + 1) cap') := by
      show vs.set (0 + es[i].frm.toNat * 1) _ = _
      rw [show 0 + es[i].frm.toNat * 1 = f by omega]
    have m11 : Own w11 bb 25 (vs.set f (.slice a' ((fromS (es.take i) f).length + 1) cap')) := by rw [← hlay]; exact m11
    have hby10 : ByV w10 bb bb n vs (es.take i) := ⟨hby.len, hmb, hbag⟩
    have hby11 := hby10.set hf hfn (Nat.le_refl _) hS.chg hown' hnew k11 m11
    refine again (i + 1, vs.set f (.slice a' ((fromS (es.take i) f).length + 1) cap')) ⟨rfl, rfl, rfl, rfl, trivial⟩ ⟨by simp only; omega, ?_, ?_, k11.own (hS.chg.own m8' hnl) (by omega)⟩ (by simp only; omega)
    · refine Chg.newS (T := fun k => k = bb ∨ some k = (vs.getD f nilS).ownBlock) (k08.trans k810) ((hS.chg.mono fun _ => .inr).trans (k11.mono fun _ => .inl)) fun k hk => ?_
      rcases hk with rfl | hk
      · omega
      · have := (hbag.lt _ (List.mem_map.2 ⟨f, by simpa using hfn, rfl⟩) k hk.symm).1
        omega
    · rw [show es.take (i + 1) = es.take i ++ [es[i]] by simp]
      exact hby11
  · have hall : es.take i = es := List.take_of_length_le (by simp only at hge; omega)
    rw [hall] at hby
    have hwf : ∀ e ∈ es, e.wf := fun e he => by
      obtain ⟨j, hj, rfl⟩ := List.getElem_of_mem he
      obtain ⟨b, o, _, _, _, cs, _, _, _, hwf⟩ := hedges j es[j] (by simp)
      exact hwf
    refine ⟨k08, lb, bb, rfl, by omega, m8, ⟨vs, ⟨hby.len, hby.mb, ⟨fun x hx => ?_, hby.bag.sep⟩⟩, fun s hs g hg => (hby.bag.lt _ (List.mem_map.2 ⟨s, by simpa using hs, rfl⟩) g hg).2⟩, ⟨by omega, by have := hby.mb.lt; omega⟩, hwf⟩
    obtain ⟨m, ho⟩ := hby.bag.own x hx
    exact ⟨m, ho.1, ho.2.imp id fun ⟨g, cap, cur, a1, a2, a3⟩ => ⟨g, cap, cur, a1, by omega, a3⟩⟩
end Go.Au

namespace Go.Proofs
open Go.Shelf
def Try.sortInts_ren : Go.Shelf.Ren := ⟨fun | 5 => 115 | 8 => 122 | 7 => 130 | 19 => 139 | 20 => 140 | 10 => 141 | 11 => 142 | 12 => 143 | 13 => 144 | 14 => 145 | 15 => 146 | 16 => 119 | 17 => 147 | 18 => 148 | 30 => 154 | 31 => 150 | 32 => 151 | 33 => 155 | 34 => 156 | 35 => 124 | 40 => 158 | n => n, fun | 23 => 24 | 25 => 3 | 3 => 3 | 32 => 138 | 22 => 24 | 0 => 0 | 44 => 168 | 46 => 107 | 4 => 4 | 36 => 162 | 35 => 161 | 41 => 117 | 5 => 5 | 9 => 9 | 53 => 174 | 57 => 178 | 63 => 182 | 64 => 183 | n => n, fun | n => n⟩
theorem Try.sortInts : Go.Proofs.SlLaysM.n5 Try.prog Try.sortInts_ren := {
  mixed := by kernel_rfl
  f5 := ⟨Try.f115.name, by decide, Try.func115.trans (congrArg some (by kernel_rfl))⟩
  f7 := ⟨Try.f130.name, by decide, Try.func130.trans (congrArg some (by kernel_rfl))⟩
  f8 := Try.func122.trans (congrArg some (by kernel_rfl))
  f10 := ⟨Try.f141.name, by decide, Try.func141.trans (congrArg some (by kernel_rfl))⟩
  f11 := ⟨Try.f142.name, by decide, Try.func142.trans (congrArg some (by kernel_rfl))⟩
  f12 := ⟨Try.f143.name, by decide, Try.func143.trans (congrArg some (by kernel_rfl))⟩
  f13 := ⟨Try.f144.name, by decide, Try.func144.trans (congrArg some (by kernel_rfl))⟩
  f14 := ⟨Try.f145.name, by decide, Try.func145.trans (congrArg some (by kernel_rfl))⟩
  f15 := ⟨Try.f146.name, by decide, Try.func146.trans (congrArg some (by kernel_rfl))⟩
  f16 := ⟨Try.f119.name, by decide, Try.func119.trans (congrArg some (by kernel_rfl))⟩
  f17 := ⟨Try.f147.name, by decide, Try.func147.trans (congrArg some (by kernel_rfl))⟩
  f18 := ⟨Try.f148.name, by decide, Try.func148.trans (congrArg some (by kernel_rfl))⟩
  f19 := Try.func139.trans (congrArg some (by kernel_rfl))
  f20 := Try.func140.trans (congrArg some (by kernel_rfl))
  f30 := ⟨Try.f154.name, by decide, Try.func154.trans (congrArg some (by kernel_rfl))⟩
  f31 := Try.func150.trans (congrArg some (by kernel_rfl))
  f32 := Try.func151.trans (congrArg some (by kernel_rfl))
  f33 := ⟨Try.f155.name, by decide, Try.func155.trans (congrArg some (by kernel_rfl))⟩
  f34 := ⟨Try.f156.name, by decide, Try.func156.trans (congrArg some (by kernel_rfl))⟩
  f35 := ⟨Try.f124.name, by decide, Try.func124.trans (congrArg some (by kernel_rfl))⟩
  f40 := ⟨Try.f158.name, by decide, Try.func158.trans (congrArg some (by kernel_rfl))⟩
  t0 := Try.underlying0
  a0 := Try.isAgg0
  z0 := Try.sizeOf0
  v0 := Try.zeroValue0
  t3 := Try.underlying3
  a3 := Try.isAgg3
  z3 := Try.sizeOf3
  v3 := Try.zeroValue3
  t4 := Try.underlying4
  a4 := Try.isAgg4
  z4 := Try.sizeOf4
  v4 := Try.zeroValue4
  t5 := Try.underlying5
  a5 := Try.isAgg5
  z5 := Try.sizeOf5
  v5 := Try.zeroValue5
  t9 := Try.underlying9
  a9 := Try.isAgg9
  z9 := Try.sizeOf9
  v9 := Try.zeroValue9
  t22 := Try.underlying24
  a22 := Try.isAgg24
  z22 := Try.sizeOf24
  v22 := Try.zeroValue24
  t23 := Try.underlying24
  a23 := Try.isAgg24
  z23 := Try.sizeOf24
  v23 := Try.zeroValue24
  t25 := Try.underlying3
  a25 := Try.isAgg3
  z25 := Try.sizeOf3
  v25 := Try.zeroValue3
  t32 := Try.underlying138
  a32 := Try.isAgg138
  z32 := Try.sizeOf138
  v32 := Try.zeroValue138
  t35 := Try.underlying161
  a35 := Try.isAgg161
  z35 := Try.sizeOf161
  v35 := Try.zeroValue161
  t36 := Try.underlying162
  a36 := Try.isAgg162
  z36 := Try.sizeOf162
  v36 := Try.zeroValue162
  t41 := Try.underlying117
  a41 := Try.isAgg117
  z41 := Try.sizeOf117
  v41 := Try.zeroValue117
  t44 := Try.underlying168
  a44 := Try.isAgg168
  z44 := Try.sizeOf168
  v44 := Try.zeroValue168
  t46 := Try.underlying107
  a46 := Try.isAgg107
  z46 := Try.sizeOf107
  v46 := Try.zeroValue107
  t53 := Try.underlying174
  a53 := Try.isAgg174
  z53 := Try.sizeOf174
  v53 := Try.zeroValue174
  t57 := Try.underlying178
  a57 := Try.isAgg178
  z57 := Try.sizeOf178
  v57 := Try.zeroValue178
  t63 := Try.underlying182
  a63 := Try.isAgg182
  z63 := Try.sizeOf182
  v63 := Try.zeroValue182
  t64 := Try.underlying183
  a64 := Try.isAgg183
  z64 := Try.sizeOf183
  v64 := Try.zeroValue183 }
def Try.sortEdges_ren : Go.Shelf.Ren := ⟨fun | 6 => 92 | 15 => 122 | 14 => 121 | 28 => 139 | 29 => 140 | 20 => 131 | 21 => 132 | 22 => 133 | 23 => 134 | 24 => 135 | 25 => 136 | 26 => 137 | 27 => 138 | 46 => 149 | 47 => 150 | 48 => 151 | 49 => 152 | 50 => 153 | 57 => 157 | n => n, fun | 22 => 25 | 24 => 52 | 25 => 83 | 3 => 3 | 39 => 138 | 0 => 0 | 53 => 168 | 55 => 107 | 4 => 4 | 46 => 162 | 45 => 161 | 50 => 117 | 5 => 5 | 9 => 9 | 66 => 174 | 70 => 178 | 76 => 182 | 77 => 183 | n => n, fun | n => n⟩
theorem Try.sortEdges : Go.Proofs.SlLaysF0.n6 Try.prog Try.sortEdges_ren := {
  mixed := by kernel_rfl
  f6 := ⟨Try.f92.name, by decide, Try.func92.trans (congrArg some (by kernel_rfl))⟩
  f14 := ⟨Try.f121.name, by decide, Try.func121.trans (congrArg some (by kernel_rfl))⟩
  f15 := Try.func122.trans (congrArg some (by kernel_rfl))
  f20 := ⟨Try.f131.name, by decide, Try.func131.trans (congrArg some (by kernel_rfl))⟩
  f21 := ⟨Try.f132.name, by decide, Try.func132.trans (congrArg some (by kernel_rfl))⟩
  f22 := ⟨Try.f133.name, by decide, Try.func133.trans (congrArg some (by kernel_rfl))⟩
  f23 := ⟨Try.f134.name, by decide, Try.func134.trans (congrArg some (by kernel_rfl))⟩
  f24 := ⟨Try.f135.name, by decide, Try.func135.trans (congrArg some (by kernel_rfl))⟩
  f25 := ⟨Try.f136.name, by decide, Try.func136.trans (congrArg some (by kernel_rfl))⟩
  f26 := ⟨Try.f137.name, by decide, Try.func137.trans (congrArg some (by kernel_rfl))⟩
  f27 := ⟨Try.f138.name, by decide, Try.func138.trans (congrArg some (by kernel_rfl))⟩
  f28 := Try.func139.trans (congrArg some (by kernel_rfl))
  f29 := Try.func140.trans (congrArg some (by kernel_rfl))
  f46 := ⟨Try.f149.name, by decide, Try.func149.trans (congrArg some (by kernel_rfl))⟩
  f47 := Try.func150.trans (congrArg some (by kernel_rfl))
  f48 := Try.func151.trans (congrArg some (by kernel_rfl))
  f49 := ⟨Try.f152.name, by decide, Try.func152.trans (congrArg some (by kernel_rfl))⟩
  f50 := ⟨Try.f153.name, by decide, Try.func153.trans (congrArg some (by kernel_rfl))⟩
  f57 := ⟨Try.f157.name, by decide, Try.func157.trans (congrArg some (by kernel_rfl))⟩
  t0 := Try.underlying0
  a0 := Try.isAgg0
  z0 := Try.sizeOf0
  v0 := Try.zeroValue0
  t3 := Try.underlying3
  a3 := Try.isAgg3
  z3 := Try.sizeOf3
  v3 := Try.zeroValue3
  t4 := Try.underlying4
  a4 := Try.isAgg4
  z4 := Try.sizeOf4
  v4 := Try.zeroValue4
  t5 := Try.underlying5
  a5 := Try.isAgg5
  z5 := Try.sizeOf5
  v5 := Try.zeroValue5
  t9 := Try.underlying9
  a9 := Try.isAgg9
  z9 := Try.sizeOf9
  v9 := Try.zeroValue9
  t22 := Try.underlying25
  a22 := Try.isAgg25
  z22 := Try.sizeOf25
  v22 := Try.zeroValue25
  t25 := Try.underlying83
  a25 := Try.isAgg83
  z25 := Try.sizeOf83
  v25 := Try.zeroValue83
  t39 := Try.underlying138
  a39 := Try.isAgg138
  z39 := Try.sizeOf138
  v39 := Try.zeroValue138
  t45 := Try.underlying161
  a45 := Try.isAgg161
  z45 := Try.sizeOf161
  v45 := Try.zeroValue161
  t46 := Try.underlying162
  a46 := Try.isAgg162
  z46 := Try.sizeOf162
  v46 := Try.zeroValue162
  t50 := Try.underlying117
  a50 := Try.isAgg117
  z50 := Try.sizeOf117
  v50 := Try.zeroValue117
  t53 := Try.underlying168
  a53 := Try.isAgg168
  z53 := Try.sizeOf168
  v53 := Try.zeroValue168
  t55 := Try.underlying107
  a55 := Try.isAgg107
  z55 := Try.sizeOf107
  v55 := Try.zeroValue107
  t66 := Try.underlying174
  a66 := Try.isAgg174
  z66 := Try.sizeOf174
  v66 := Try.zeroValue174
  t70 := Try.underlying178
  a70 := Try.isAgg178
  z70 := Try.sizeOf178
  v70 := Try.zeroValue178
  t76 := Try.underlying182
  a76 := Try.isAgg182
  z76 := Try.sizeOf182
  v76 := Try.zeroValue182
  t77 := Try.underlying183
  a77 := Try.isAgg183
  z77 := Try.sizeOf183
  v77 := Try.zeroValue183 }
end Go.Proofs

namespace Go.Au
open Go Go.RowKit Go.Sort Go.Lib

/-! ### the library's sort, laid -/
theorem flatK_list {α : Type} [Inhabited α] {enc : α → List Value} {k : Nat} (hk : ∀ x, (enc x).length = k) (d : Array α) : (flatK enc k d).toList = d.toList.flatMap enc := by
  rcases Nat.eq_zero_or_pos k with h0 | h0
  · subst h0
    have h1 : d.toList.flatMap enc = [] := by
      rw [List.flatMap_eq_nil_iff]
      intro x _
      exact List.eq_nil_of_length_eq_zero (hk x)
    rw [h1]
    apply List.eq_nil_of_length_eq_zero
    simp
  · apply List.ext_getElem?
    intro t
    by_cases ht : t < d.size * k
    · have hq : t / k < d.size := Nat.div_lt_of_lt_mul (by rw [Nat.mul_comm]; exact ht)
      have hr : t % k < k := Nat.mod_lt _ h0
      have hx : d.toList[t / k]? = some d[t / k] := by simp [hq]
      have h2 := flat_get hk d.toList (t / k) d[t / k] hx (t % k) hr
      rw [show t / k * k + t % k = t by rw [Nat.mul_comm]; exact Nat.div_add_mod t k] at h2
      rw [h2]
      have h3 := get_flatK enc k d t ht
      rw [getElem!_pos _ t (by simpa using ht), getElem!_pos d _ hq, getElem!_pos _ (t % k) (by rw [hk]; exact hr)] at h3
      rw [Array.getElem?_toList, Array.getElem?_eq_getElem (by simpa using ht), h3, List.getElem?_eq_getElem (by rw [hk]; exact hr)]
    · rw [List.getElem?_eq_none (by simpa using ht), List.getElem?_eq_none (by rw [flat_len hk]; simpa using ht)]
theorem kp_grow {W w' : World} (k : Kp W w') : ∃ q os, w' = grow (W.drewN q) os := by
  refine ⟨w'.drawn - W.drawn, w'.heap.extract W.heap.size w'.heap.size, ?_⟩
  obtain ⟨k1, k2, k3, k4, k5, k6⟩ := k
  obtain ⟨heap, tape, drawn, os, output⟩ := w'
  obtain ⟨heap0, tape0, drawn0, os0, output0⟩ := W
  simp only at k1 k2 k3 k4 k5 k6
  subst k1 k2 k4
  unfold grow World.drewN
  simp only [World.mk.injEq, true_and, and_true]
  refine ⟨?_, by omega⟩
  apply Array.ext_getElem?
  intro i
  rw [Array.getElem?_append]
  split
  · rename_i hi; exact k6 i hi id
  · rename_i hi
    rw [Array.getElem?_extract]
    split
    · congr 1; omega
    · rw [Array.getElem?_eq_none (by omega)]
theorem sort_world {w : World} {base size n g cap : Nat} {el : TypeId} {xs : List Value} (h : w.ownsRow base el size (.slice (some ⟨g, 0, none⟩) n cap) n xs) (F : Array Value) (hF : F.size = n * size) (m : Nat) (os : Array Obj) :
    Chg (fun j => j = g) w (grow (putRow id (Sort.ahead w m) g 0 F) os) ∧ (grow (putRow id (Sort.ahead w m) g 0 F) os).ownsRow base el size (.slice (some ⟨g, 0, none⟩) n cap) n F.toList := by
  rcases h.2 with ⟨h0, _⟩ | ⟨g', cap', cur, h0, h1, h2, h3, h4, h5, h6⟩
  · cases h0
  injection h0 with h0 _ h0'
  injection h0 with h0
  injection h0 with h0
  subst h0 h0'
  have hlt := lt_of_heap h2
  have hsz : (grow (putRow id (Sort.ahead w m) g 0 F) os).heap = (w.heap.modify g (onCells (putCells id 0 F))) ++ os := rfl
  have hcs : n * size ≤ cap * size := Nat.mul_le_mul_right _ h3
  refine ⟨⟨rfl, rfl, Nat.le_add_right _ _, rfl, ?_, fun k hk hn => ?_⟩, by simpa using hF, .inr ⟨g, cap, putCells id 0 F cur, rfl, h1, ?_, h3, h4, by simpa [putCells] using h5, ?_⟩⟩
  · rw [hsz]; simp
  · rw [hsz, Array.getElem?_append, if_pos (by simpa using hk), Array.getElem?_modify, if_neg (Ne.symm hn)]
  · rw [hsz, Array.getElem?_append, if_pos (by simpa using hlt), Array.getElem?_modify, if_pos rfl, h2]; rfl
  · apply List.ext_getElem?
    intro i
    rw [List.getElem?_take]
    split
    · rename_i hi
      have hi2 : i < cur.size := by rw [h5]; omega
      rw [Array.getElem?_toList, Array.getElem?_toList]
      simp only [putCells, Array.getElem?_mapIdx]
      rw [Array.getElem?_eq_getElem hi2, Array.getElem?_eq_getElem (by omega)]
      simp only [Option.map_some]
      rw [if_pos ⟨Nat.zero_le _, by omega⟩, Nat.sub_zero, getElem!_pos F i (by omega)]
      rfl
    · rename_i hi
      rw [List.getElem?_eq_none (by simp; omega)]
theorem row_holds {w : World} {base size n g cap : Nat} {el : TypeId} {xs : List Value} (h : w.ownsRow base el size (.slice (some ⟨g, 0, none⟩) n cap) n xs) : Holds id w g 0 xs.toArray := by
  rcases h.2 with ⟨h0, _⟩ | ⟨g', cap', cur, h0, h1, h2, h3, h4, h5, h6⟩
  · cases h0
  injection h0 with h0 _ h0'
  injection h0 with h0
  injection h0 with h0
  subst h0 h0'
  intro j hj
  have hj : j < xs.length := by simpa using hj
  have hjn : j < n * size := by have := h.1; omega
  have hx : cur[j]? = some xs[j] := by
    have : xs[j]? = cur.toList[j]? := by rw [← h6, List.getElem?_take, if_pos hjn]
    rw [List.getElem?_eq_getElem hj, Array.getElem?_toList] at this
    exact this.symm
  refine ⟨?_, ?_⟩
  · simp only [World.cell?, h2, Nat.zero_add]
    simp [hx, hj]
  · simp only [World.frozen?, h2, Nat.zero_add]
    simp
theorem putRow_enc {α : Type} [Inhabited α] (enc : α → Value) (w : World) (g : Nat) (d : Array α) : putRow enc w g 0 d = putRow id w g 0 (d.map enc) := by
  unfold putRow
  congr 1
  funext c
  unfold putCells
  apply Array.ext_getElem?
  intro i
  simp only [Array.getElem?_mapIdx]
  cases c[i]? with
  | none => rfl
  | some x =>
    simp only [Option.map_some, Array.size_map]
    congr 1
    by_cases h : 0 ≤ i ∧ i < 0 + d.size
    · rw [if_pos h, if_pos h, Nat.sub_zero, getElem!_pos d i (by omega), getElem!_pos _ i (by simp; omega)]
      simp
    · rw [if_neg h, if_neg h]
end Go.Au

namespace Go.Au
open Go Go.RowKit Go.Sort Go.Lib Go.Proofs

abbrev fN1 (x : Int) : List Value := [.int .i64 x]
theorem ints_map (xs : List Int) : xs.flatMap fN1 = xs.map (Value.int .i64) := by induction xs <;> simp_all
theorem callSortInts : callable Proofs.Try.prog 115 = true := by kernel_rfl
theorem sortInts_c {w : World} {base : Nat} {v : Value} {xs : List Int} (h : w.ownsRow base 3 1 v xs.length (xs.flatMap fN1)) (hl : xs.length < 4611686018427387904) :
    Calls Proofs.Try.prog 115 [v].toArray w (Ret fun _ w' => Chg (fun j => some j = v.ownBlock) w w' ∧ w'.ownsRow base 3 1 v xs.length ((xs.mergeSort fun x y => decide (x ≤ y)).flatMap fN1)) := by
  have h' := h
  rcases h'.2 with ⟨rfl, h0⟩ | ⟨g, cap, cur, rfl, -, h2, -⟩
  · have hx : xs = [] := List.eq_nil_of_length_eq_zero h0
    subst hx
    have hc := AnyM.slices_Sort_int_none Proofs.Try.sortInts none 0 w
    refine Calls.mono hc fun e w' ⟨he, hw⟩ => ?_
    subst he hw
    exact ⟨Chg.refl _ _, by rw [List.mergeSort_nil]; exact h⟩
  · have hH : Holds (Value.int .i64) w g 0 xs.toArray := by
      have := row_holds h
      rw [ints_map] at this
      intro j hj
      have hj' : j < xs.length := by simpa using hj
      have h3 := this j (by simpa using hj)
      rw [getElem!_pos _ j (by simpa using hj)] at h3
      rw [getElem!_pos _ j hj]
      simpa using h3
    have hc := AnyM.slices_Sort_int Proofs.Try.sortInts g 0 cap xs w hH (lt_of_heap h2) hl
    refine Calls.mono hc fun e w' ⟨he, m, os, hw⟩ => ?_
    subst he
    rw [putRow_enc] at hw
    have hs := sort_world h ((xs.mergeSort fun x y => decide (x ≤ y)).toArray.map (Value.int .i64)) (by simp) m os
    rw [← hw] at hs
    refine ⟨hs.1.mono fun j hj => by subst hj; rfl, ?_⟩
    have h4 := hs.2
    rw [ints_map]
    simpa using h4

/-! ### edges -/
theorem order_lt (a b : Edge) : orderS a b < 0 ↔ a.frm < b.frm ∨ a.frm = b.frm ∧ (a.to < b.to ∨ a.to = b.to ∧ (a.must < b.must ∨ a.must = b.must ∧ a.no < b.no)) := by
  have hc : ∀ x y : Int, (cmp3 x y = 0 ↔ x = y) ∧ (cmp3 x y < 0 ↔ x < y) := fun x y => by
    unfold cmp3
    split
    · constructor <;> constructor <;> intro <;> omega
    · split
      · constructor <;> constructor <;> intro <;> omega
      · constructor <;> constructor <;> intro <;> omega
  obtain ⟨a1, a2⟩ := hc a.frm b.frm
  obtain ⟨b1, b2⟩ := hc a.to b.to
  obtain ⟨c1, c2⟩ := hc a.must b.must
  obtain ⟨d1, d2⟩ := hc a.no b.no
  unfold orderS
  simp only [firstOf]
  by_cases h1 : cmp3 a.frm b.frm = 0
  · rw [if_pos h1]
    have h1' := a1.1 h1
    by_cases h2 : cmp3 a.to b.to = 0
    · rw [if_pos h2]
      have h2' := b1.1 h2
      by_cases h3 : cmp3 a.must b.must = 0
      · rw [if_pos h3]
        have h3' := c1.1 h3
        by_cases h4 : cmp3 a.no b.no = 0
        · rw [if_pos h4]
          have h4' := d1.1 h4
          constructor <;> intro h <;> omega
        · rw [if_neg h4, d2]
          constructor <;> intro h <;> omega
      · rw [if_neg h3, c2]
        have : ¬ a.must = b.must := fun h => h3 (c1.2 h)
        constructor <;> intro h <;> omega
    · rw [if_neg h2, b2]
      have : ¬ a.to = b.to := fun h => h2 (b1.2 h)
      constructor <;> intro h <;> omega
  · rw [if_neg h1, a2]
    have : ¬ a.frm = b.frm := fun h => h1 (a1.2 h)
    constructor <;> intro h <;> omega
def ltE (a b : Edge) : Bool := ltOf orderS a b
theorem ltE_iff (a b : Edge) : ltE a b = true ↔ a.frm < b.frm ∨ a.frm = b.frm ∧ (a.to < b.to ∨ a.to = b.to ∧ (a.must < b.must ∨ a.must = b.must ∧ a.no < b.no)) := by
  unfold ltE ltOf
  rw [decide_eq_true_eq]
  exact order_lt a b
theorem ltE_no (a b : Edge) : ltE a b = false ↔ ¬ (a.frm < b.frm ∨ a.frm = b.frm ∧ (a.to < b.to ∨ a.to = b.to ∧ (a.must < b.must ∨ a.must = b.must ∧ a.no < b.no))) := by
  rw [← ltE_iff]; cases ltE a b <;> simp
theorem ltE_swo : SWO ltE where
  irrefl x := by rw [ltE_no]; omega
  trans x y z h1 h2 := by rw [ltE_iff] at *; omega
  ntrans x y z h1 h2 := by rw [ltE_no] at *; omega
theorem ltE_total (x y : Edge) (h1 : ltE x y = false) (h2 : ltE y x = false) : x = y := by
  rw [ltE_no] at h1 h2
  obtain ⟨a, b, c, d⟩ := x
  obtain ⟨a', b', c', d'⟩ := y
  simp only at h1 h2
  simp only [Edge.mk.injEq]
  omega
instance : Inhabited Edge := ⟨⟨0, 0, 0, 0⟩⟩
def sortE (es : List Edge) : List Edge := es.mergeSort fun x y => !ltE y x
theorem callSortEdges : callable Proofs.Try.prog 92 = true := by kernel_rfl
theorem order_lays (blk off size : Nat) (w : World) : CmpLays Proofs.Try.prog 52 #[] Edge.cells 4 orderS blk off size w := fun m os dk hdk x y => by
  have h := order_c (sortWorldK Edge.cells 4 w blk off m dk os) x y
  refine Calls.mono h fun e w' he => ?_
  cases e with
  | returned v =>
    obtain ⟨rfl, k⟩ := he
    exact ⟨rfl, kp_grow k⟩
  | _ => exact he.elim
theorem sortEdges_c {w : World} {base : Nat} {v : Value} {es : List Edge} (h : w.ownsRow base 52 4 v es.length (es.flatMap Edge.cells)) (hl : es.length < 4611686018427387904) :
    Calls Proofs.Try.prog 92 [v, .func (.func 52) #[] #[]].toArray w (Ret fun _ w' => Chg (fun j => some j = v.ownBlock) w w' ∧ w'.ownsRow base 52 4 v es.length ((sortE es).flatMap Edge.cells)) := by
  have h' := h
  rcases h'.2 with ⟨rfl, h0⟩ | ⟨g, cap, cur, rfl, -, h2, -⟩
  · have hx : es = [] := List.eq_nil_of_length_eq_zero h0
    subst hx
    have hc := AnyF.slices_SortFunc_none Proofs.Try.sortEdges none 0 (.func (.func 52) #[] #[]) w
    refine Calls.mono hc fun e w' ⟨he, hw⟩ => ?_
    subst he hw
    exact ⟨Chg.refl _ _, by unfold sortE; rw [List.mergeSort_nil]; exact h⟩
  · have hk : ∀ x : Edge, x.cells.length = 4 := fun _ => rfl
    have hf : flatK Edge.cells 4 es.toArray = (es.flatMap Edge.cells).toArray := by
      apply Array.toList_inj.1
      rw [flatK_list hk]
    have hH : HoldsK Edge.cells 4 w g 0 es.toArray := by
      unfold HoldsK
      rw [hf]
      exact row_holds h
    have eg : ∀ args w, (callFunc 52 args).run Proofs.Try.prog w = .ok (.enter 52 args) w := fun args w => run_callFunc callOrder args w
    have hc := AnyQ.slices_SortFunc_total Proofs.Try.sortEdges 4 Proofs.Try.isAgg52 Proofs.Try.sizeOf52 Edge.cells hk (fun x u hu => by simp [Edge.cells] at hu; rcases hu with rfl | rfl | rfl | rfl <;> rfl) orderS ltE_swo 52 #[] g 0 cap es.toArray w eg (order_lays g 0 _ w) hH (lt_of_heap h2) (by simpa using hl) ltE_total
    refine Calls.mono hc fun e w' ⟨he, m, os, hw⟩ => ?_
    subst he
    have hs := sort_world h (flatK Edge.cells 4 (sortE es).toArray) (by simp [sortE]) m os
    have hw : w' = grow (putRow id (Sort.ahead w m) g 0 (flatK Edge.cells 4 (sortE es).toArray)) os := hw
    rw [← hw] at hs
    refine ⟨hs.1.mono fun j hj => by subst hj; rfl, ?_⟩
    have h4 := hs.2
    rw [flatK_list hk] at h4
    exact h4
end Go.Au

namespace Go.Au
open Go Go.RowKit

/-! ### neighbours that are the same, once -/
def compP (xs : List Edge) : Nat → List Edge
  | 0 => []
  | p + 1 => match xs[p]? with
    | none => compP xs p
    | some x => if 0 < p ∧ xs[p - 1]? = some x then compP xs p else compP xs p ++ [x]
def compE (xs : List Edge) : List Edge := compP xs xs.length
theorem compP_len (xs : List Edge) : ∀ p, (compP xs p).length ≤ p
  | 0 => Nat.le_refl _
  | p + 1 => by
    have := compP_len xs p
    unfold compP
    split
    · omega
    · split
      · omega
      · rw [List.length_append]; simp; exact this
theorem compP_new {xs : List Edge} {p : Nat} {x : Edge} (hx : xs[p]? = some x) (hn : 0 < p → xs[p - 1]? ≠ some x) : compP xs (p + 1) = compP xs p ++ [x] := by
  rw [compP, hx]
  simp only
  rw [if_neg fun h => hn h.1 h.2]
theorem compP_old {xs : List Edge} {p : Nat} {x : Edge} (hx : xs[p]? = some x) (h0 : 0 < p) (hn : xs[p - 1]? = some x) : compP xs (p + 1) = compP xs p := by
  rw [compP, hx]
  simp only
  rw [if_pos ⟨h0, hn⟩]
theorem compP_take {xs : List Edge} : ∀ {k : Nat}, k ≤ xs.length → (∀ j, 0 < j → j < k → xs[j]? ≠ xs[j - 1]?) → compP xs k = xs.take k
  | 0, _, _ => by simp [compP]
  | k + 1, hk, h => by
    have hx : xs[k]? = some xs[k] := by simp
    rw [compP_new hx fun h0 he => h k h0 (by omega) (hx.trans he.symm), compP_take (by omega) fun j h1 h2 => h j h1 (by omega), List.take_succ_eq_append_getElem (by omega)]
theorem valEq (a b : Edge) : (#[.int .i64 a.frm, .int .i64 a.to, .int .u16 a.must, .int .u16 a.no] : Array Value) = #[.int .i64 b.frm, .int .i64 b.to, .int .u16 b.must, .int .u16 b.no] ↔ a = b := by
  constructor
  · intro h
    obtain ⟨a1, a2, a3, a4⟩ := a
    obtain ⟨b1, b2, b3, b4⟩ := b
    simp at h
    simp [h]
  · rintro rfl; rfl

theorem callCompactE : callable Proofs.Try.prog 93 = true := by kernel_rfl
set_option maxHeartbeats 1000000 in
theorem compactE_c {w : World} {base : Nat} {v : Value} {xs : List Edge} (h : w.ownsRow base 52 4 v xs.length (xs.flatMap Edge.cells)) (hl : xs.length < 4611686018427387904) :
    Calls Proofs.Try.prog 93 [v].toArray w (Ret fun r w' => Chg (fun j => some j = v.ownBlock) w w' ∧ w'.ownsRow base 52 4 r (compE xs).length ((compE xs).flatMap Edge.cells) ∧ r.ownBlock = v.ownBlock) := by
  have hk4 : ∀ x : Edge, x.cells.length = 4 := fun _ => rfl
  have hf := ownsRow_form h
  obtain ⟨va, vc, rfl⟩ := hf
  have hsame : Unit → (∀ j, 0 < j → j < xs.length → xs[j]? ≠ xs[j - 1]?) → compE xs = xs := fun _ hn => by unfold compE; rw [compP_take (Nat.le_refl _) hn, List.take_length]
  refine call agree Proofs.Try.func93 rfl Proofs.Try.ntmps93 (by kernel_rfl) ?_
  refine sp (fun hlt => ?_) (fun hge => ?_)
  · have he := hsame () fun j h1 h2 => by omega
    exact ⟨Chg.refl _ _, by rw [he]; exact h, rfl⟩
  · have hge : 2 ≤ xs.length := by omega
    rcases id h.2 with ⟨h0, h1⟩ | ⟨g, cap, cur, h0, hbase, hg, hncap, hcm, hcs, htk⟩
    · omega
    injection h0 with h0 _ h0'
    subst h0 h0'
    obtain ⟨cs, hcsd⟩ : ∃ cs, cs = cur.toList := ⟨_, rfl⟩
    have hO : Own w g 52 cs := by rw [hcsd]; exact hg
    obtain ⟨rest, hrest⟩ : ∃ rest, rest = cs.drop (xs.length * 4) := ⟨_, rfl⟩
    have hsp : cs = xs.flatMap Edge.cells ++ rest := by rw [hrest, ← htk, hcsd, List.take_append_drop]
    have hcl : cs.length = vc * 4 := by rw [hcsd]; simpa using hcs
    rw [hsp] at hO
    have hmk : ∀ (W : World) (ys : List Edge) (rest' : List Value) (m : Nat), Own W g 52 (ys.flatMap Edge.cells ++ rest') → (ys.flatMap Edge.cells ++ rest').length = vc * 4 → m ≤ ys.length → m ≤ vc → W.ownsRow base 52 4 (.slice (some ⟨g, 0, none⟩) m vc) m ((ys.take m).flatMap Edge.cells) := fun W ys rest' m hW hlen hm hmc => by
      refine ⟨by rw [flat_len hk4, List.length_take]; omega, .inr ⟨g, vc, (ys.flatMap Edge.cells ++ rest').toArray, rfl, hbase, hW, hmc, hcm, by simpa using hlen, ?_⟩⟩
      show (ys.flatMap Edge.cells ++ rest').take (m * 4) = _
      rw [← List.take_append_drop m ys, List.flatMap_append, List.append_assoc, List.take_append_drop, List.take_left' (by rw [flat_len hk4, List.length_take]; omega)]
    refine loop agree (σ := Nat) (fun k => [(0, .slice (some ⟨g, 0, none⟩) xs.length vc), (3, .int .i64 k)]) (fun k W => Kp w W ∧ 1 ≤ k ∧ k ≤ xs.length ∧ ∀ j, 0 < j → j < k → xs[j]? ≠ xs[j - 1]?) (fun k => xs.length - k) 1
      ⟨rfl, rfl, trivial⟩ ⟨Chg.refl _ _, Nat.le_refl _, by omega, fun j h1 h2 => by omega⟩ ?_
    rintro k e0 W ⟨kW, hk1, hkl, hno⟩
    refine sp (fun hlt => ?_) (fun hge2 => ?_)
    · have hlt : k < xs.length := by omega
      have hxk : xs[k]? = some xs[k] := by simp
      have hxp : xs[k - 1]? = some (xs[k - 1]'(by omega)) := by simp [show k - 1 < xs.length by omega]
      obtain ⟨X, hX⟩ : ∃ X, X = xs[k] := ⟨_, rfl⟩
      obtain ⟨Y, hY⟩ : ∃ Y, Y = xs[k - 1]'(by omega) := ⟨_, rfl⟩
      rw [← hX] at hxk
      rw [← hY] at hxp
      refine drawn0 agree mixed 10 (by kernel_rfl) (fun _ => False) ?_
      conv => whnf
      refine ne ⟨by omega, by omega⟩ ?_
      conv => whnf
      refine ldk (v := X.val) agree rfl rfl (fun V hV _ => by rw [Int.toNat_natCast]; exact flat_range hk4 hxk (Own.all ((kW.trans hV).own hO id))) (by rfl) fun _ => ?_
      conv => whnf
      refine arX (show _ = ((k - 1 : Nat) : Int) by rw [show ((k : Int) - 1) = ((k - 1 : Nat) : Int) by omega]; exact wrap64 (by omega) (by omega)) ?_
      conv => whnf
      refine ne ⟨by omega, by omega⟩ ?_
      conv => whnf
      refine ldk (v := Y.val) agree rfl rfl (fun V hV _ => by rw [Int.toNat_natCast]; exact flat_range hk4 hxp (Own.all ((kW.trans hV).own hO id))) (by rfl) fun _ => ?_
      conv => whnf
      refine ne ⟨by kernel_rfl, by kernel_rfl⟩ ?_
      conv => whnf
      by_cases hXY : X = Y
      · refine spT ((valEq X Y).2 hXY) ?_
        conv => whnf
        intro W1 k1 _
        have kW1 := kW.trans k1
        have hO1 := kW1.own hO id
        refine ne ⟨by omega, by omega, by omega⟩ ?_
        -- the tail
        have hcv : vc = k ∨ ¬ vc = k := Classical.em _
        have hcP : compP xs k = xs.take k := compP_take (by omega) hno
        have hcP1 : compP xs (k + 1) = xs.take k := by rw [compP_old hxk (by omega) (by rw [hxp, hXY])]; exact hcP
        have h2s : ∀ p, k + 1 ≤ p → (compP xs p).length < p := fun p => by
          induction p with
          | zero => intro hp; omega
          | succ p ih =>
            intro hp
            rcases Nat.lt_or_ge k p with h3 | h3
            · have h4 := ih (by omega)
              rw [compP]
              split
              · omega
              · split
                · omega
                · rw [List.length_append]; simp; omega
            · obtain rfl : p = k := by omega
              rw [hcP1, List.length_take]; omega
        have hnc : ¬ vc = k := by omega
        have hsl : (if vc = k then (some ⟨g, 0, none⟩ : Option Addr) else (some ⟨g, 0, none⟩ : Option Addr).map (·.add (k * 4))) = some ⟨g, k * 4, none⟩ := by
          rw [if_neg hnc]
          simp only [Option.map_some, Addr.add]
          rw [if_neg (by omega), Nat.zero_add]
        obtain ⟨sl, hsld⟩ : ∃ sl, sl = (if vc = k then (some ⟨g, 0, none⟩ : Option Addr) else (some ⟨g, 0, none⟩ : Option Addr).map (·.add (k * 4))) := ⟨_, rfl⟩
        rw [← hsld] at hsl
        subst hsl
        refine loop agree (σ := Nat × Nat × List Edge) (fun t => [(0, .slice (some ⟨g, 0, none⟩) xs.length vc), (3, .int .i64 t.2.1), (4, .slice (some ⟨g, k * 4, none⟩) (xs.length - k) (vc - k)), (5, .int .i64 t.1)])
          (fun t W => Chg (fun j => j = g) w W ∧ 1 ≤ t.1 ∧ t.1 ≤ xs.length - k ∧ t.2.1 = (compP xs (k + t.1)).length ∧ t.2.2.length = xs.length ∧ Own W g 52 (t.2.2.flatMap Edge.cells ++ rest) ∧ t.2.2.take t.2.1 = compP xs (k + t.1) ∧ ∀ j, k + t.1 - 1 ≤ j → t.2.2[j]? = xs[j]?) (fun t => xs.length - t.1) (1, k, xs)
          ⟨rfl, rfl, ?_, rfl, trivial⟩ ⟨kW1.mono fun _ hf => hf.elim, Nat.le_refl _, by simp only; omega, by simp only; rw [hcP1, List.length_take]; omega, rfl, hO1, by simp only; rw [hcP1], fun j hj => rfl⟩ ?_
        · show Value.slice (if vc = k then (some ⟨g, 0, none⟩ : Option Addr) else (some ⟨g, 0, none⟩ : Option Addr).map (·.add (k * 4))) (xs.length - k) (vc - k) = _
          rw [← hsld]
        rintro ⟨i, q, ys⟩ e1 W2 ⟨c2, hi1, hil, hq, hyl, hOy, htq, hor⟩
        simp only at hi1 hil hq hyl hOy htq hor
        have hql := compP_len xs (k + i)
        refine sp (fun hlt2 => ?_) (fun hge3 => ?_)
        · have hlt2 : i < xs.length - k := by simp only at hlt2; omega
          have hki : k + i < xs.length := by omega
          obtain ⟨A, hA⟩ : ∃ A, A = xs[k + i] := ⟨_, rfl⟩
          obtain ⟨B, hB⟩ : ∃ B, B = xs[k + i - 1]'(by omega) := ⟨_, rfl⟩
          have hxA : xs[k + i]? = some A := by rw [hA]; simp
          have hxB : xs[k + i - 1]? = some B := by rw [hB]; simp [show k + i - 1 < xs.length by omega]
          have hyA : ys[k + i]? = some A := (hor _ (by omega)).trans hxA
          have hyB : ys[k + i - 1]? = some B := (hor _ (by omega)).trans hxB
          have rA := flat_range hk4 hyA (Own.all hOy)
          have rB := flat_range hk4 hyB (Own.all hOy)
          have eA : 0 + (k + i) * 4 = k * 4 + i * 4 := by omega
          have eB : 0 + (k + i - 1) * 4 = k * 4 + (i - 1) * 4 := by omega
          rw [eA] at rA
          rw [eB] at rB
          refine drawn0 agree mixed 10 (by kernel_rfl) (fun _ => False) ?_
          conv => whnf
          refine ne ⟨by omega, by omega⟩ ?_
          conv => whnf
          refine ldk (v := A.val) agree rfl rfl (fun V hV _ => by rw [Int.toNat_natCast]; exact hV.range rA id) (by rfl) fun _ => ?_
          conv => whnf
          refine arX (show _ = ((i - 1 : Nat) : Int) by rw [show ((i : Int) - 1) = ((i - 1 : Nat) : Int) by omega]; exact wrap64 (by omega) (by omega)) ?_
          conv => whnf
          refine ne ⟨by omega, by omega⟩ ?_
          conv => whnf
          refine ldk (v := B.val) agree rfl rfl (fun V hV _ => by rw [Int.toNat_natCast]; exact hV.range rB id) (by rfl) fun _ => ?_
          conv => whnf
          refine ne ⟨by kernel_rfl, by kernel_rfl⟩ ?_
          conv => whnf
          by_cases hAB : A = B
          · refine spF (fun hn => hn ((valEq A B).2 hAB)) ?_
            conv => whnf
            intro W3 k3 _
            have hc1 : compP xs (k + (i + 1)) = compP xs (k + i) := compP_old (p := k + i) hxA (by omega) (by rw [hxB, hAB])
            refine aw (by simp only; omega) (by simp only; omega) ?_
            refine again (i + 1, q, ys) ⟨rfl, rfl, rfl, rfl, trivial⟩ ⟨c2.newT k3 fun _ hf => hf.elim, by simp only; omega, by simp only; omega, by simp only; rw [hc1]; exact hq, hyl, k3.own hOy id, by simp only; rw [hc1]; exact htq, fun j hj => hor j (by simp only at hj; omega)⟩ (by simp only; omega)
          · refine spT (fun hn => hAB ((valEq A B).1 hn)) ?_
            conv => whnf
            intro W3 k3 _
            have hOy3 := k3.own hOy id
            have hc1 : compP xs (k + (i + 1)) = compP xs (k + i) ++ [A] := compP_new (p := k + i) hxA fun _ he => hAB (by rw [hxB] at he; injection he with he; exact he.symm)
            have hqx : q < xs.length := by omega
            refine ne ⟨by omega, by omega⟩ ?_
            refine ld agree (v := A.val) (by rw [Int.toNat_natCast]; exact k3.range rA id) (by rfl) ?_
            refine ne ⟨Int.natCast_nonneg _, Int.ofNat_lt.2 hqx⟩ ?_
            refine st agree hOy3 rfl ?_ rfl ?_
            · show 0 + ((q : Nat) : Int).toNat * 4 + 4 ≤ _
              rw [List.length_append, flat_len hk4]; omega
            intro W4 z4 c4 m4
            have hly := lay_flat hk4 rest A ys q (by omega)
            have m4 : Own W4 g 52 (lay (ys.flatMap Edge.cells ++ rest) (0 + ((q : Nat) : Int).toNat * 4) A.cells) := m4
            rw [show 0 + ((q : Nat) : Int).toNat * 4 = q * 4 by omega, hly] at m4
            refine aw (by simp only; omega) (by simp only; omega) ?_
            refine aw (by simp only; omega) (by simp only; omega) ?_
            refine again (i + 1, q + 1, ys.set q A) ⟨rfl, rfl, rfl, rfl, trivial⟩ ⟨(c2.newT k3 fun _ hf => hf.elim).trans c4, by simp only; omega, by simp only; omega, by simp only; rw [hc1, List.length_append, ← hq]; rfl, by simp only; rw [List.length_set]; exact hyl, m4, ?_, fun j hj => ?_⟩ (by simp only; omega)
            · show (ys.set q A).take (q + 1) = compP xs (k + (i + 1))
              have ht9 : (ys.set q A).take (q + 1) = ys.take q ++ [A] := by
                rw [List.take_succ_eq_append_getElem (by rw [List.length_set]; omega), List.getElem_set_self, List.take_set_of_le (Nat.le_refl _)]
              rw [hc1, ← htq]
              exact ht9
            · have hj : k + (i + 1) - 1 ≤ j := hj
              have h9 := h2s (k + i) (by omega)
              show (ys.set q A)[j]? = xs[j]?
              rw [List.getElem?_set_ne (show q ≠ j by omega)]
              exact hor j (by omega)
        · have hie : i = xs.length - k := by simp only at hge3; omega
          subst hie
          have hkk : k + (xs.length - k) = xs.length := by omega
          rw [hkk] at hq htq hql
          have hqlt : q < xs.length := by
            rw [hq]
            exact h2s xs.length (by omega)
          refine ne ⟨Int.natCast_nonneg _, Int.ofNat_le.2 (Nat.le_of_lt hqlt), Int.ofNat_le.2 hncap⟩ ?_
          have hncq : ¬ vc = q := by omega
          have hslq : (if vc = q then (some ⟨g, 0, none⟩ : Option Addr) else (some ⟨g, 0, none⟩ : Option Addr).map (·.add (q * 4))) = some ⟨g, q * 4, none⟩ := by
            rw [if_neg hncq]
            simp only [Option.map_some, Addr.add]
            split
            · rename_i h0; rw [h0]
            · rw [Nat.zero_add]
          obtain ⟨sq, hsqd⟩ : ∃ sq, sq = (if vc = q then (some ⟨g, 0, none⟩ : Option Addr) else (some ⟨g, 0, none⟩ : Option Addr).map (·.add (q * 4))) := ⟨_, rfl⟩
          rw [← hsqd] at hslq
          subst hslq
          refine clrS (b := g) (o := q * 4) (n := xs.length - q) (c := vc - q) agree rfl ?_ rfl rfl rfl hOy (by omega) ?_ rfl ?_
          · show Value.slice (if vc = q then (some ⟨g, 0, none⟩ : Option Addr) else (some ⟨g, 0, none⟩ : Option Addr).map (·.add (q * 4))) (xs.length - q) (vc - q) = _
            rw [← hsqd]
          · show q * 4 + (xs.length - q) * 4 ≤ _
            rw [List.length_append, flat_len hk4, hyl]; omega
          intro W3 zs hzl z3 c3 hO3
          have hzl : zs.length = (xs.length - q) * 4 := hzl
          refine ne ⟨by decide, Int.natCast_nonneg _, Int.ofNat_le.2 (Nat.le_trans (Nat.le_of_lt hqlt) hncap)⟩ ?_
          have hlen : (ys.flatMap Edge.cells ++ rest).length = vc * 4 := by
            have : (xs.flatMap Edge.cells ++ rest).length = vc * 4 := by rw [← hsp]; exact hcl
            rw [List.length_append, flat_len hk4] at this ⊢
            omega
          have hsplit : lay (ys.flatMap Edge.cells ++ rest) (q * 4) zs = (ys.take q).flatMap Edge.cells ++ (zs ++ rest) := by
            have h1 : ys.flatMap Edge.cells ++ rest = (ys.take q).flatMap Edge.cells ++ ((ys.drop q).flatMap Edge.cells ++ rest) := by
              conv => lhs; rw [← List.take_append_drop q ys, List.flatMap_append, List.append_assoc]
            rw [h1]
            have h2 := lay_left rest zs ((ys.drop q).flatMap Edge.cells) ((ys.take q).flatMap Edge.cells) (by rw [flat_len hk4, List.length_drop, hyl]; exact hzl)
            rw [flat_len hk4, List.length_take, Nat.min_eq_left (by omega)] at h2
            exact h2
          rw [hsplit] at hO3
          have hcq : compE xs = ys.take q := htq.symm
          have hcql : (compE xs).length = q := hq.symm
          refine ⟨(c2.trans c3).mono fun j hj => by rw [hj]; rfl, ?_, rfl⟩
          rw [hcql, hcq]
          have h5 := hmk W3 (ys.take q) (zs ++ rest) q hO3 (by
            rw [← hlen, List.length_append, List.length_append, List.length_append, flat_len hk4, flat_len hk4, List.length_take]; omega) (by rw [List.length_take]; omega) (by omega)
          rw [List.take_take, Nat.min_self] at h5
          exact h5
      · refine spF (fun hn => hXY ((valEq X Y).1 hn)) ?_
        conv => whnf
        intro W1 k1 _
        refine aw (by omega) (by omega) ?_
        refine again (k + 1) ⟨rfl, rfl, trivial⟩ ⟨kW.trans k1, by omega, by omega, fun j h1 h2 => ?_⟩ (by omega)
        rcases Nat.lt_or_ge j k with h3 | h3
        · exact hno j h1 h3
        · obtain rfl : j = k := by omega
          rw [hxk, hxp]
          exact fun he => hXY (by injection he)
    · have he := hsame () fun j h1 h2 => hno j h1 (by omega)
      exact ⟨kW.mono fun _ hf => hf.elim, by rw [he]; exact ownsRow_chg h kW fun _ _ => id, rfl⟩
end Go.Au

namespace Go.Au
open Go Go.RowKit Go.MapKept
open Go.Maps (Keyed)

/-- a run of an automaton beside a word -/
structure RunV (lo hi : Nat) (w : World) (r : Nat) (g : General) (x : Word) (all : List Place) : Prop where
  h : ∃ pv iv ev sv stv lov mn av nl, Own w r 129 [pv, .int .i64 g.states, iv, ev, sv, stv, lov, .map (some mn), av] ∧ lo ≤ r ∧ r < hi ∧ lo ≤ mn ∧ mn < hi ∧ GenV 0 hi w pv iv ev sv g ∧
    RowE (fun _ cs p => cs = pcells p) 2 0 hi w av all ∧ MapE Proofs.Try.prog 133 pval (fun v : Value => v) w mn nl ∧ ∀ p ∈ all, RowE (fun _ cs p => cs = pcells p) 2 0 hi w (aget nl nilS p) (succ g x p)

theorem behindV_c {w : World} {lo hi : Nat} {sv lv : Value} {x : Word} (hv : WordV lo hi w sv lv x) (i : Nat) (hi : i < 4611686018427387904) :
    Calls Proofs.Try.prog 103 [.agg #[sv, lv], .int .i64 i].toArray w (Ret fun r w' => r = .int .i64 (x.behind i) ∧ Kp w w') := by
  obtain ⟨a1, c1, rfl, -⟩ := hv.stem
  obtain ⟨a2, c2, rfl, -⟩ := hv.loop
  exact behind_c a1 a2 c1 c2 x hv.ls hv.ll i hi
def putP (all : List Place) (p : Place) : List Place := if p ∈ all then all else all ++ [p]
theorem mem_putP {all : List Place} {p q : Place} : q ∈ putP all p ↔ q ∈ all ∨ q = p := by
  unfold putP
  split
  · rename_i h
    exact ⟨.inl, fun h' => h'.elim id fun e => e ▸ h⟩
  · simp
theorem nodup_putP {all : List Place} {p : Place} (h : all.Nodup) : (putP all p).Nodup := by
  unfold putP
  split
  · exact h
  · rename_i hp
    rw [List.nodup_append]
    refine ⟨h, by simp, fun a ha b hb he => ?_⟩
    simp at hb
    exact hp (hb ▸ he ▸ ha)
theorem take_putP {all : List Place} {p : Place} {i : Nat} (h : i ≤ all.length) : (putP all p).take i = all.take i := by
  unfold putP
  split
  · rfl
  · rw [List.take_append_of_le_length h]
theorem len_putP {all : List Place} {p : Place} : all.length ≤ (putP all p).length := by
  unfold putP
  split <;> simp

/-- what is reached, under way: i places are done -/
structure Reach (g : General) (x : Word) (i : Nat) (all : List Place) : Prop where
  nodup : all.Nodup
  closed : ∀ p ∈ all.take i, ∀ q ∈ succ g x p, q ∈ all
  least : ∀ X : Place → Prop, (∀ s ∈ g.init, X (s, 0)) → (∀ p q, X p → q ∈ succ g x p → X q) → ∀ p ∈ all, X p
theorem Reach.put {g : General} {x : Word} {i : Nat} {all : List Place} {q : Place} (h : Reach g x i all) (hi : i ≤ all.length) (hq : (∃ s ∈ g.init, q = (s, 0)) ∨ ∃ p ∈ all, q ∈ succ g x p) : Reach g x i (putP all q) :=
  ⟨nodup_putP h.nodup, fun p hp a ha => mem_putP.2 (.inl (h.closed p (by rwa [take_putP hi] at hp) a ha)), fun X h1 h2 p hp => by
    rcases mem_putP.1 hp with hp | rfl
    · exact h.least X h1 h2 p hp
    · rcases hq with ⟨s, hs, rfl⟩ | ⟨p', hp', hq⟩
      · exact h1 s hs
      · exact h2 _ _ (h.least X h1 h2 p' hp') hq⟩
theorem Reach.box {g : General} {x : Word} {i : Nat} {all : List Place} (h : Reach g x i all) (hg : Good g) (hx : x.loop.length ≠ 0) : ∀ p ∈ all, InBox g x p :=
  h.least _ (fun s hs => by
    have := hg.init s hs
    have := places_pos hx
    exact ⟨by simp; omega, by simp; omega, by simp, by simp; omega⟩) (fun p q hp hq => succ_box hg hx hp q hq)
theorem Reach.len {g : General} {x : Word} {i : Nat} {all : List Place} (h : Reach g x i all) (hg : Good g) (hx : x.loop.length ≠ 0) (hP : x.places < 1048576) : all.length < 1099511627776 := by
  have h1 := box_len h.nodup hg (h.box hg hx)
  have h2 : g.states.toNat * x.places ≤ 65536 * 1048576 := Nat.mul_le_mul (by have := hg.s1; omega) (by omega)
  omega

def doneS (g : General) (x : Word) (dn : List Place) (a : Place) : List Place := if a ∈ dn then succ g x a else []
def curS (g : General) (x : Word) (dn : List Place) (p : Place) (sj : List Place) (a : Place) : List Place := if a = p then sj else doneS g x dn a

theorem curS_done (g : General) (x : Word) (dn : List Place) (p : Place) : curS g x dn p (succ g x p) = doneS g x (dn ++ [p]) := by
  funext a
  unfold curS doneS
  by_cases h : a = p
  · rw [if_pos h, if_pos (by simp [h]), h]
  · rw [if_neg h]
    simp [h]
abbrev NextE (w : World) (mn : Nat) (nl : List (Place × Value)) := MapE Proofs.Try.prog 133 pval (fun v : Value => v) w mn nl

/-- the walk is at its places -/
structure RunS (w8 w : World) (base p9 p5 r ms mn : Nat) (cs : List Value) (av : Value) (all : List Place) (nl : List (Place × Value)) (F : Place → List Place) (pre : List (Value × List Value)) : Prop where
  put : PutV w base p9 p5 r ms mn cs av all (pre ++ nl.map fun a => (a.2, flat (F a.1)))
  next : NextE w mn nl
  none : ∀ a, alook nl a = none → F a = []
  chg : Chg (fun k => k = r ∨ k = mn) w8 w
  ne : mn ≠ ms
  low : w8.heap.size ≤ base ∧ w8.heap.size ≤ ms

theorem RunS.step {w8 w w' : World} {base p9 p5 r ms mn : Nat} {cs : List Value} {av av' : Value} {all all' : List Place} {nl : List (Place × Value)} {F : Place → List Place} {pre : List (Value × List Value)} (h : RunS w8 w base p9 p5 r ms mn cs av all nl F pre)
    (hp : PutV w' base p9 p5 r ms mn cs av' all' (pre ++ nl.map fun a => (a.2, flat (F a.1)))) (hc : Chg (fun k => k = r ∨ k = ms ∨ some k = av.ownBlock) w w') : RunS w8 w' base p9 p5 r ms mn cs av' all' nl F pre := by
  obtain ⟨es, clock, hm, -⟩ := h.next.h
  refine ⟨hp, h.next.chg hc fun hh => ?_, h.none, h.chg.newT hc ?_, h.ne, h.low⟩
  · rcases hh with rfl | rfl | hh
    · rw [show w.heap[mn]? = _ from h.put.mr] at hm; cases hm
    · exact h.ne rfl
    · exact h.put.bag.ne hm (by simp) _ List.mem_cons_self hh.symm
  · rintro k (rfl | rfl | hk) 
    · exact .inl (.inl rfl)
    · exact .inr h.low.2
    · have := h.put.bag.lt _ List.mem_cons_self k hk.symm
      have := h.low.1; exact .inr (by omega)

theorem PutV.kp {w w' : World} {base p9 p5 r ms mn : Nat} {cs : List Value} {av : Value} {all : List Place} {L : List (Value × List Value)} (h : PutV w base p9 p5 r ms mn cs av all L) (k : Kp w w') : PutV w' base p9 p5 r ms mn cs av all L :=
  ⟨k.own h.m9 id, k.own h.m5 id, k.own h.mr id, h.len, h.seen.chg k id, h.bag.kp k, Nat.le_trans h.base k.size⟩
theorem RunS.kp {w8 w w' : World} {base p9 p5 r ms mn : Nat} {cs : List Value} {av : Value} {all : List Place} {nl : List (Place × Value)} {F : Place → List Place} {pre : List (Value × List Value)} (h : RunS w8 w base p9 p5 r ms mn cs av all nl F pre) (k : Kp w w') : RunS w8 w' base p9 p5 r ms mn cs av all nl F pre :=
  ⟨h.put.kp k, h.next.chg k id, h.none, h.chg.newT k fun _ hf => hf.elim, h.ne, h.low⟩
theorem RunS.row {w8 w : World} {base p9 p5 r ms mn : Nat} {cs : List Value} {av : Value} {all : List Place} {nl : List (Place × Value)} {F : Place → List Place} {pre : List (Value × List Value)} (h : RunS w8 w base p9 p5 r ms mn cs av all nl F pre) (p : Place) : w.ownsRow base 133 2 (aget nl nilS p) (F p).length (flat (F p)) := by
  obtain ⟨n, hn⟩ := Bag.lookRow (pre := (av, flat all) :: pre) (F := fun a => flat (F a)) h.put.bag (fun a ha => by rw [h.none a ha]; rfl) p
  have : n = (F p).length := by
    have := hn.1
    simp only [flat] at this
    rw [flat_len (size := 2) (fun x => rfl)] at this
    omega
  rwa [this] at hn
theorem RunS.next_ {w8 w w' : World} {base p9 p5 r ms mn : Nat} {cs : List Value} {av v' : Value} {all : List Place} {nl : List (Place × Value)} {F : Place → List Place} {pre : List (Value × List Value)} {p q : Place} {n' : Nat} (h : RunS w8 w base p9 p5 r ms mn cs av all nl F pre)
    (hc : Chg (fun b => b = mn ∨ some b = (aget nl nilS p).ownBlock) w w') (hm : NextE w' mn (aput nl p v')) (hrow : w'.ownsRow base 133 2 v' n' (flat (F p) ++ pcells q)) (hnew : ∀ g, v'.ownBlock = some g → (aget nl nilS p).ownBlock = some g ∨ w.heap.size ≤ g) :
    RunS w8 w' base p9 p5 r ms mn cs av all (aput nl p v') (fun a => if a = p then F p ++ [q] else F a) pre := by
  have hold := h.row p
  obtain ⟨es, clock, hmn, -⟩ := h.next.h
  obtain ⟨es2, clock2, hms, -⟩ := h.put.seen.h
  have hcell : ∀ {b t cs}, Own w b t cs → t ≠ 133 → Own w' b t cs := fun {b t cs} ho ht => hc.own ho fun hk => by
    rcases hk with hk | hk
    · exact h.next.ne ho hk
    · exact ownsRow_ne hold ho (fun cs fr hh => by injection hh with _ h2; exact ht h2) hk.symm
  refine ⟨⟨hcell h.put.m9 (by decide), hcell h.put.m5 (by decide), hcell h.put.mr (by decide), h.put.len, h.put.seen.chg hc ?_, ?_, Nat.le_trans h.put.base hc.size⟩, hm, ?_, h.chg.newT hc ?_, h.ne, h.low⟩
  · rintro (hk | hk)
    · exact h.ne hk.symm
    · exact ownsRow_ne hold hms (by simp) hk.symm
  · have hb := Bag.aput (pre := (av, flat all) :: pre) (F := fun a => flat (F a)) (x := p) (xs' := flat (F p) ++ pcells q) h.next.nodup h.put.bag hc (fun b hb => ?_) hrow hnew
    · have heq : (fun a : Place × Value => (a.2, flat (if a.1 = p then F p ++ [q] else F a.1))) = fun a => (a.2, if a.1 = p then flat (F p) ++ pcells q else flat (F a.1)) := by
        funext a
        split
        · rw [flat_snoc]
        · rfl
      rw [heq]
      exact hb
    · rcases hb with rfl | hb
      · exact .inr (h.put.bag.ne hmn (by simp))
      · exact .inl hb
  · intro a ha
    rw [alook_aput] at ha
    by_cases hap : a = p
    · subst hap
      rw [if_pos rfl] at ha
      cases ha
    · rw [if_neg (Ne.symm hap)] at ha
      rw [if_neg hap]
      exact h.none a ha
  · rintro k (hk | hk)
    · exact .inl (.inr hk)
    · have := (hold.lt k hk.symm).1
      have := h.low.1
      exact .inr (by omega)

set_option maxHeartbeats 4000000 in
theorem beside_c {w : World} {pv iv ev sv stv lov : Value} {g : General} {x : Word} (hv : GenV 0 w.heap.size w pv iv ev sv g) (hw : WordV 0 w.heap.size w stv lov x) (hg : Good g) (hx : x.loop.length ≠ 0)
    (hE : g.edges.length < 1099511627776) (hP : x.places < 1048576) :
    Calls Proofs.Try.prog 67 [.agg #[pv, .int .i64 g.states, iv, ev, sv], .agg #[stv, lov]].toArray w (Ret fun v w' => Kp w w' ∧ ∃ r all, v = pt r 0 ∧ AllOf g x all ∧ RunV w.heap.size w'.heap.size w' r g x all) := by
  obtain ⟨ea, ec, he, hec, hedges⟩ := id hv.edges
  obtain ⟨ia, ic, hi, hic, hinit⟩ := id hv.init
  subst he hi
  refine call agree Proofs.Try.func67 rfl Proofs.Try.ntmps67 (by kernel_rfl) ?_
  refine nd fun p2 w1 e1 s1 k1 m1 => ?_
  have m2 : Own w1 p2 28 [pv, .int .i64 g.states, .slice ia g.init.length ic, .slice ea g.edges.length ec, sv] := m1
  refine nd fun p3 w2 e2 s2 k2 m3 => ?_
  have m3 : Own w2 p3 44 [stv, lov] := m3
  have m2 := k2.own m2 id
  refine ld agree (v := .agg #[pv, .int .i64 g.states, .slice ia g.init.length ic, .slice ea g.edges.length ec, sv]) (Own.at_ (xs := [pv, .int .i64 g.states, .slice ia g.init.length ic, .slice ea g.edges.length ec, sv]) (o := 0) m2 rfl) (by rfl) ?_
  refine ld agree (v := .agg #[stv, lov]) (Own.at_ (xs := [stv, lov]) (o := 0) m3 rfl) (by rfl) ?_
  refine nd fun mn w3 e3 s3 k3 mmn => ?_
  refine nd fun r w4 e4 s4 k4 mr => ?_
  have mr : Own w4 r 129 [pv, .int .i64 g.states, .slice ia g.init.length ic, .slice ea g.edges.length ec, sv, stv, lov, .map (some mn), nilS] := mr
  refine nd fun p5 w5 e5 s5 k5 m5 => ?_
  have m5 : Own w5 p5 94 [.pointer none] := m5
  refine st agree m5 rfl (Nat.le_refl 1) rfl ?_
  intro w6 s6 k6 m6
  have m6 : Own w6 p5 94 [pt r 0] := m6
  have k16 : Kp w1 w6 := k2.trans (k3.trans (k4.trans (k5.new e5 k6)))
  have k26 : Kp w2 w6 := k3.trans (k4.trans (k5.new e5 k6))
  have k36 : Kp w3 w6 := k4.trans (k5.new e5 k6)
  have k46 : Kp w4 w6 := k5.new e5 k6
  refine ld agree (Own.at_ (xs := [.int .i64 g.states]) (k26.own m2 id) rfl) (by rfl) ?_
  have h0 := hg.s0
  have h1 := hg.s1
  refine ms agree rfl rfl rfl rfl rfl rfl h0 (Int.le_refl _) (by show (24 : Int) * _ ≤ _; omega) (by omega) fun bb w7 e7 s7 k7 m7 => ?_
  obtain ⟨n, hn⟩ : ∃ n : Nat, g.states = n := ⟨g.states.toNat, by omega⟩
  have m7 : Own w7 bb 25 (rep [nilS] g.states.toNat) := m7
  rw [hn, Int.toNat_natCast] at m7
  have k27 : Kp w2 w7 := k26.trans k7
  have k17 : Kp w1 w7 := k16.trans k7
  refine ld agree (Own.at_ (xs := [.slice ea g.edges.length ec]) (k27.own m2 id) rfl) (by rfl) ?_
  have hrep : ∀ n, rep [nilS] n = List.replicate n nilS := by
    intro n
    induction n with
    | zero => rfl
    | succ n ih => simp [rep, ih, List.replicate_succ]
  have hby0 : ByV w7 bb bb n (rep [nilS] n) [] := by
    refine ⟨by simp [hrep], m7, ⟨fun y hy => ?_, ?_⟩⟩
    · obtain ⟨s, hs, rfl⟩ := List.mem_map.1 hy
      refine ⟨0, ?_⟩
      simp only [hrep, fromS, List.filter_nil, List.flatMap_nil]
      have : (List.replicate n nilS).getD s nilS = nilS := by simp [List.getD_eq_getElem?_getD, List.getElem?_replicate]; split <;> rfl
      rw [this]
      exact World.ownsRow_nil _ _ _ _
    · rw [List.pairwise_map]
      refine List.pairwise_of_forall fun a b c hc => ?_
      have : (rep [nilS] n).getD a nilS = nilS := by simp [hrep, List.getD_eq_getElem?_getD, List.getElem?_replicate]; split <;> rfl
      simp only [this, Value.ownBlock] at hc
      cases hc
  have k67 : Kp w6 w7 := k7
  refine loop agree (σ := Nat × List Value) (fun t => [(2, pt p2 0), (3, pt p3 0), (5, pt p5 0), (6, .slice (some ⟨bb, 0, none⟩) n n), (27, .slice ea g.edges.length ec), (28, .int .i64 g.edges.length), (29, .int .i64 t.1)])
    (fun t w' => t.1 ≤ g.edges.length ∧ Kp w6 w' ∧ ByV w' bb bb n t.2 (g.edges.take t.1)) (fun t => g.edges.length - t.1) (0, rep [nilS] n)
    ⟨rfl, rfl, rfl, ?_, rfl, rfl, rfl, trivial⟩ ⟨by omega, k67, by simpa using hby0⟩ ?_
  · show Value.slice _ g.states.toNat g.states.toNat = _
    rw [hn, Int.toNat_natCast]
  rintro ⟨i, vs⟩ env w8 ⟨hi, k68, hby⟩
  have k18 : Kp w1 w8 := k16.trans k68
  refine sp (fun hlt => ?_) (fun hge => ?_)
  · have hi' : i < g.edges.length := by simp only at hlt; omega
    obtain ⟨b, o, rfl, hlo, hhi, cs, hcs, hrd, rfl, hwf⟩ := hedges i g.edges[i] (by simp)
    have her := hg.edges g.edges[i] (by simp)
    obtain ⟨f, hf⟩ : ∃ f : Nat, g.edges[i].frm = f := ⟨g.edges[i].frm.toNat, by omega⟩
    have hfn : f < n := by omega
    refine ne ⟨by omega, hlt⟩ ?_
    refine ld agree (v := g.edges[i].val) ((k1.trans k18).range hrd id) rfl ?_
    refine nd fun q w9 e9 s9 k9 m9 => ?_
    refine st agree (cs := [.int .i64 0, .int .i64 0, .int .u16 0, .int .u16 0]) m9 rfl (Nat.le_refl 4) rfl ?_
    intro w10 s10 k10 m10
    have m10 : Own w10 q 52 g.edges[i].cells := m10
    have k810 : Kp w8 w10 := k9.new e9 k10
    have hmb := k810.own hby.mb id
    have hbag := hby.bag.kp k810
    obtain ⟨m, hrow⟩ := hbag.own (vs.getD f nilS, (fromS (g.edges.take i) f).flatMap Edge.cells) (List.mem_map.2 ⟨f, by simpa using hfn, rfl⟩)
    have hm : m = (fromS (g.edges.take i) f).length := by
      have := hrow.1
      rw [flat_len (size := 4) (fun e => rfl)] at this
      omega
    subst hm
    have hml : (fromS (g.edges.take i) f).length ≤ i := by
      have h1 := List.length_filter_le (fun e : Edge => decide (e.frm = (f : Int))) (g.edges.take i)
      simp only [List.length_take] at h1
      unfold fromS
      omega
    have hltB : ∀ k, (vs.getD f nilS).ownBlock = some k → k < w10.heap.size := fun k hk => (hrow.lt k hk).2
    have hltB8 : ∀ k, (vs.getD f nilS).ownBlock = some k → k < w8.heap.size := fun k hk => (hby.bag.lt _ (List.mem_map.2 ⟨f, by simpa using hfn, rfl⟩) k hk).2
    have hnq : some q ≠ (vs.getD f nilS).ownBlock := fun he => by have := hltB8 q he.symm; omega
    have hnb : some bb ≠ (vs.getD f nilS).ownBlock := fun he => ownsRow_ne hrow hmb (fun cs fr hh => by injection hh with _ h2; exact absurd h2 (by decide)) he.symm
    have hvf : vs[f]? = some (vs.getD f nilS) := by simp [List.getD_eq_getElem?_getD, hby.len, hfn]
    obtain ⟨va, vc, hvs⟩ := ownsRow_form hrow
    have hpre := preAppR w10 (vs.getD f nilS) ((fromS (g.edges.take i) f).length * 4) g.edges[i].cells
    refine drawnR agree mixed 12 (by kernel_rfl) _ hpre ?_
    conv => whnf
    refine ldr hpre agree rfl rfl (fun W h _ => h.chg.range (Own.at_ (xs := [.int .i64 g.edges[i].frm]) m10 rfl) hnq) (by rfl) fun _ => ?_
    conv => whnf
    refine ldr hpre agree rfl rfl (fun W h _ => h.chg.range (Own.at_ (xs := [.int .i64 g.edges[i].frm]) m10 rfl) hnq) (by rfl) fun _ => ?_
    conv => whnf
    refine ne ⟨by omega, by omega⟩ ?_
    conv => whnf
    refine ldr (v := vs.getD f nilS) hpre agree rfl rfl (fun W h _ => h.chg.range (Own.one hmb hvf (by show 0 + g.edges[i].frm.toNat * 1 = f; omega)) hnb) (by rfl) fun _ => ?_
    conv => whnf
    refine ldr (v := g.edges[i].val) hpre agree rfl rfl (fun W h _ => h.chg.range (Own.at_ (xs := g.edges[i].cells) (o := 0) m10 rfl) hnq) (by rfl) fun _ => ?_
    conv => whnf
    refine bsr hpre rfl rfl rfl rfl rfl (by decide) (fun b o W W' hb ho hS => hS.chg.heap ho fun hc => by have := hltB b hc.symm; omega) (fun W hS => hS.chg.size) fun q2 D hD => ?_
    conv => whnf
    refine apr (m := 1) (news := g.edges[i].cells) agree rfl rfl rfl rfl rfl rfl rfl (by decide) hrow rfl (fun W hS hDn => Own.at_ (xs := g.edges[i].cells) (o := 0) (hD W (hDn 9 (by kernel_rfl))).1 rfl) rfl (by simp only [maxLen]; omega) (by show (_ + 1) * 24 ≤ _; omega) (by have := k810.size; have := hby.mb.lt; omega) fun v' D2 hD2 => ?_
    conv => whnf
    refine ne ⟨by omega, by omega⟩ ?_
    conv => whnf
    intro W hS hDn
    obtain ⟨hown', hnew⟩ := hD2 W (hDn 10)
    have hmbW := hS.chg.own hmb hnb
    obtain ⟨a', cap', rfl⟩ := ownsRow_form hown'
    refine st agree hmbW (by rfl) ?_ rfl ?_
    · show 0 + g.edges[i].frm.toNat * 1 + 1 ≤ vs.length
      rw [hby.len]; omega
    intro w11 s11 k11 m11
    refine aw (by omega) (by omega) ?_
    have hby' : ByV w8 bb bb n vs (g.edges.take i) := hby
    have hlay : lay vs (0 + g.edges[i].frm.toNat * 1) (cellsL (.slice a' ((fromS (g.edges.take i) f).length + 1) cap')) = vs.set f (.slice a' ((fromS (g.edges.take i) f).length + 1) cap') := by
      show vs.set (0 + g.edges[i].frm.toNat * 1) _ = _
      rw [show 0 + g.edges[i].frm.toNat * 1 = f by omega]
    have m11 : Own w11 bb 25 (vs.set f (.slice a' ((fromS (g.edges.take i) f).length + 1) cap')) := by rw [← hlay]; exact m11
    have hby10 : ByV w10 bb bb n vs (g.edges.take i) := ⟨hby.len, hmb, hbag⟩
    have hby11 := hby10.set hf hfn (Nat.le_refl _) hS.chg hown' hnew k11 m11
    refine again (i + 1, vs.set f (.slice a' ((fromS (g.edges.take i) f).length + 1) cap')) ⟨rfl, rfl, rfl, rfl, rfl, rfl, rfl, trivial⟩ ⟨by simp only; omega, ?_, ?_⟩ (by simp only; omega)
    · refine Chg.newS (T := fun k => k = bb ∨ some k = (vs.getD f nilS).ownBlock) (k68.trans k810) ((hS.chg.mono fun _ => .inr).trans (k11.mono fun _ => .inl)) fun k hk => ?_
      rcases hk with rfl | hk
      · omega
      · have := (hbag.lt _ (List.mem_map.2 ⟨f, by simpa using hfn, rfl⟩) k hk.symm).1
        omega
    · rw [show g.edges.take (i + 1) = g.edges.take i ++ [g.edges[i]] by simp]
      exact hby11
  -- behind the first loop
  have hall : g.edges.take i = g.edges := List.take_of_length_le (by simp only at hge; omega)
  rw [hall] at hby
  have hwf : ∀ e ∈ g.edges, e.wf := fun e he => by
    obtain ⟨j, hj, rfl⟩ := List.getElem_of_mem he
    obtain ⟨b, o, _, _, _, cs, _, _, _, hwf⟩ := hedges j g.edges[j] (by simp)
    exact hwf
  have hrows := hby.row (Nat.le_refl _) hwf
  have k28 : Kp w2 w8 := k26.trans k68
  refine nd fun ms w9 e9 s9 k9 mms => ?_
  refine nd fun p9 w10 e10 s10 k10 m9 => ?_
  have m9 : Own w10 p9 131 [.map none] := m9
  refine st agree m9 rfl (Nat.le_refl 1) rfl ?_
  intro w11 s11 k11 m11
  have m9 : Own w11 p9 131 [.map (some ms)] := m11
  have k8b : Kp w8 w11 := k9.trans (k10.new e10 k11)
  refine ld agree (Own.at_ (xs := [.slice ia g.init.length ic]) ((k28.trans k8b).own m2 id) rfl) (by rfl) ?_
  have hput0 : RunS w8 w11 w11.heap.size p9 p5 r ms mn [pv, .int .i64 g.states, .slice ia g.init.length ic, .slice ea g.edges.length ec, sv, stv, lov] nilS [] [] (fun _ => []) [] := by
    have k9b : Kp w9 w11 := k10.new e10 k11
    refine ⟨⟨m9, k8b.own (k68.own m6 id) id, k8b.own (k68.own (k46.own mr id) id) id, rfl, (MapE.made mms pval_inj).chg k9b id, ?_, Nat.le_refl _⟩, (((MapE.made mmn pval_inj).chg k36 id).chg k68 id).chg k8b id, fun _ _ => rfl, k8b.mono fun _ hf => hf.elim, ?_, ?_⟩
    · exact (Bag.nil).consNil
    · have := lt_of_heap mmn; have := k36.size; have := k68.size; omega
    · exact ⟨k8b.size, by omega⟩
  refine loop agree (σ := Nat × Value × List Place) (fun t => [(3, pt p3 0), (5, pt p5 0), (6, .slice (some ⟨bb, 0, none⟩) n n), (10, .func (.func 101) #[] #[pt p9 0, pt p5 0]), (49, .slice ia g.init.length ic), (50, .int .i64 g.init.length), (51, .int .i64 t.1)])
    (fun t w' => t.1 ≤ g.init.length ∧ Reach g x 0 t.2.2 ∧ (∀ s ∈ g.init.take t.1, (s, 0) ∈ t.2.2) ∧ RunS w8 w' w11.heap.size p9 p5 r ms mn [pv, .int .i64 g.states, .slice ia g.init.length ic, .slice ea g.edges.length ec, sv, stv, lov] t.2.1 t.2.2 [] (fun _ => []) []) (fun t => g.init.length - t.1) (0, nilS, [])
    ⟨rfl, rfl, rfl, rfl, rfl, rfl, rfl, trivial⟩ ⟨by omega, ⟨by simp, by simp, by simp⟩, by simp, hput0⟩ ?_
  rintro ⟨j, av, all⟩ env2 w12 ⟨hj, hR, hinj, hS⟩
  have hlow := hS.low
  have hli := hv.li
  have keep : ∀ {W b t cs}, Chg (fun k => k = r ∨ k = mn) w8 W → Own w8 b t cs → b ≠ r → b ≠ mn → Own W b t cs := fun h m h1 h2 => h.own m fun hh => hh.elim h1 h2
  refine sp (fun hlt => ?_) (fun hge2 => ?_)
  · have hj' : j < g.init.length := by simp only at hlt; omega
    obtain ⟨b, o, rfl, hlo, hhi, cs, hcs, hrd, rfl⟩ := hinit j g.init[j] (by simp)
    have hir := hg.init g.init[j] (by simp)
    refine ne ⟨by omega, hlt⟩ ?_
    have hn12 : ∀ k, k < w.heap.size → ¬ (k = r ∨ k = mn) := fun k hk => by
      have := k1.size; have := k2.size; have := lt_of_heap mmn; omega
    refine ld agree (hS.chg.range ((k1.trans (k16.trans k68)).range hrd id) (hn12 _ hhi)) (by rfl) ?_
    have hbx : I64 ((g.init[j], 0) : Place).1 ∧ I64 ((g.init[j], 0) : Place).2 := ⟨⟨by simp; omega, by simp; omega⟩, ⟨by simp, by simp⟩⟩
    have hlen := hR.len hg hx hP
    have hcall := put_c hS.put hbx.1 hbx.2 hlen
    refine cl callPut hcall ?_
    rintro v' w13 ⟨av', hp', hc', hnew'⟩
    refine aw (by omega) (by omega) ?_
    refine again (j + 1, av', putP all (g.init[j], 0)) ⟨rfl, rfl, rfl, rfl, rfl, rfl, rfl, trivial⟩ ⟨by simp only; omega, hR.put (Nat.zero_le _) (.inl ⟨_, by simp, rfl⟩), ?_, hS.step hp' hc'⟩ (by simp only; omega)
    intro s hs
    rw [show g.init.take (j + 1) = g.init.take j ++ [g.init[j]] by simp] at hs
    rcases List.mem_append.1 hs with hs | hs
    · exact mem_putP.2 (.inl (hinj s hs))
    · simp at hs
      exact mem_putP.2 (.inr (by rw [hs]))
  have hinit0 : ∀ s ∈ g.init, (s, 0) ∈ all := by
    rw [List.take_of_length_le (by simp only at hge2; omega)] at hinj
    exact hinj
  have hrows8 : EdgeRows bb w8.heap.size w8 (.slice (some ⟨bb, 0, none⟩) n n) ((List.range n).map fun (s : Nat) => fromS g.edges s) := hrows
  have hkeys : ∀ {W}, Chg (fun k => k = r ∨ k = mn) w8 W → ∀ {lo v es}, bb ≤ lo → Edges lo w8.heap.size w8 v es → Edges lo w8.heap.size W v es := fun h _ _ _ hlo hr => hr.chg h (fun k h1 h2 hh => by
    have := lt_of_heap mmn; have := mr.lt; have := k46.size; omega) (fun _ _ h => h)
  have hF0 : (fun _ : Place => ([] : List Place)) = doneS g x (all.take 0) := by funext a; simp [doneS]
  rw [hF0] at hS
  refine loop agree (σ := Nat × Value × List Place × List (Place × Value)) (fun t => [(3, pt p3 0), (5, pt p5 0), (6, .slice (some ⟨bb, 0, none⟩) n n), (10, .func (.func 101) #[] #[pt p9 0, pt p5 0]), (13, .int .i64 t.1)])
    (fun t w' => t.1 ≤ t.2.2.1.length ∧ Reach g x t.1 t.2.2.1 ∧ (∀ s ∈ g.init, (s, 0) ∈ t.2.2.1) ∧ RunS w8 w' w11.heap.size p9 p5 r ms mn [pv, .int .i64 g.states, .slice ia g.init.length ic, .slice ea g.edges.length ec, sv, stv, lov] t.2.1 t.2.2.1 t.2.2.2 (doneS g x (t.2.2.1.take t.1)) [])
    (fun t => g.states.toNat * x.places - t.1) (0, av, all, [])
    ⟨rfl, rfl, rfl, rfl, rfl, trivial⟩ ⟨by omega, hR, hinit0, hS⟩ ?_
  clear hS hR hinit0 hinj hF0 hge2 keep
  rintro ⟨i, av, all, nl⟩ env3 w14 ⟨hi, hR, hI, hS⟩
  simp only at hi hR hI hS
  have hlen := hR.len hg hx hP
  obtain ⟨ma, hav⟩ := hS.put.bag.own _ List.mem_cons_self
  obtain ⟨ava, avc, rfl⟩ := ownsRow_form hav
  have hma : ma = all.length := by
    have := hav.1
    simp only [flat] at this
    rw [flat_len (size := 2) (fun x => rfl)] at this
    omega
  subst hma
  refine ld agree (Own.at_ (xs := [pt r 0]) hS.put.m5 rfl) (by rfl) ?_
  refine ld agree (Own.at_ (xs := [.slice ava all.length avc]) hS.put.mr rfl) (by rfl) ?_
  refine sp (fun hlt => ?_) (fun hge2 => ?_)
  · have hi' : i < all.length := by omega
    have hbox := hR.box hg hx all[i] (by simp)
    obtain ⟨hb1, hb2, hb3, hb4⟩ := hbox
    obtain ⟨f, hf⟩ : ∃ f : Nat, all[i].1 = f := ⟨all[i].1.toNat, by omega⟩
    obtain ⟨at_, hat⟩ : ∃ a : Nat, all[i].2 = a := ⟨all[i].2.toNat, by omega⟩
    have hav' := ownsRow_row (f := pcells) (fun _ => rfl) hav (by decide)
    obtain ⟨a', c', he', hcap', hread⟩ := hav'
    obtain ⟨b, o, rfl, hlo, hhi, cs, hcs, hrd, rfl⟩ := hread i all[i] (by simp)
    have he1 := (Value.slice.inj he').1
    have he3 := (Value.slice.inj he').2.2
    subst he1 he3
    refine ld agree (Own.at_ (xs := [pt r 0]) hS.put.m5 rfl) (by rfl) ?_
    refine ld agree (Own.at_ (xs := [.slice (some ⟨b, o, none⟩) all.length avc]) hS.put.mr rfl) (by rfl) ?_
    refine ne ⟨by omega, hlt⟩ ?_
    refine ld agree (v := pval all[i]) hrd rfl ?_
    refine nd fun p14 w15 e15 s15 k15 m15 => ?_
    refine st agree (cs := [.int .i64 0, .int .i64 0]) m15 rfl (Nat.le_refl 2) rfl ?_
    intro w16 s16 k16' m16
    have m14 : Own w16 p14 133 (pcells all[i]) := m16
    have kin : Kp w14 w16 := k15.new e15 k16'
    refine ld agree (Own.at_ (xs := [.int .i64 all[i].1]) m14 rfl) (by rfl) ?_
    refine ne ⟨by omega, by omega⟩ ?_
    obtain ⟨_, _, hrowE, _, hrowsE⟩ := id hrows8
    have h1 := (Value.slice.inj hrowE).1
    subst h1
    obtain ⟨b2, o2, hbo, hlo2, hhi2, cs2, hcs2, hrd2, u, rfl, hu⟩ := hrowsE f (fromS g.edges f) (by rw [List.getElem?_map, List.getElem?_range (by omega)]; rfl)
    have hbo1 : bb = b2 := congrArg Addr.block (Option.some.inj hbo)
    have hbo2 : 0 = o2 := congrArg Addr.off (Option.some.inj hbo)
    subst hbo1 hbo2
    have hCw : Chg (fun k => k = r ∨ k = mn) w8 w16 := hS.chg.newT kin fun _ hf => hf.elim
    have hlo8 : ∀ k, bb ≤ k → ¬ (k = r ∨ k = mn) := fun k hk => by
      have := lt_of_heap mmn; have := mr.lt; have := k46.size; omega
    refine ld agree (v := u) (hCw.range (by have := hrd2; rw [show 0 + f * 1 = 0 + all[i].1.toNat * 1 by omega] at this; exact this) (hlo8 _ hlo2)) (by rfl) ?_
    obtain ⟨ua, uc, rfl, huc, hel⟩ := id hu
    have hesl : (fromS g.edges f).length ≤ g.edges.length := List.length_filter_le _ _
    have hnin : all[i] ∉ all.take i := fun hm => by
      obtain ⟨k, hk, he⟩ := List.getElem_of_mem hm
      have hk' : k < i := by simp at hk; omega
      rw [List.getElem_take] at he
      exact absurd ((List.nodup_iff_pairwise_ne.1 hR.nodup |> List.pairwise_iff_getElem.1) k i (by omega) hi' hk' ) (by simpa using he)
    have hS0 : RunS w8 w16 w11.heap.size p9 p5 r ms mn [pv, .int .i64 g.states, .slice ia g.init.length ic, .slice ea g.edges.length ec, sv, stv, lov] (.slice (some ⟨b, o, none⟩) all.length avc) all nl (curS g x (all.take i) all[i] []) [(.slice (some ⟨p14, 0, none⟩) 1 1, pcells all[i])] := by
      have h := hS.kp kin
      have hFF : curS g x (all.take i) all[i] [] = doneS g x (all.take i) := by
        funext a
        by_cases ha : a = all[i]
        · subst ha; simp [curS, doneS, hnin]
        · simp [curS, ha]
      rw [hFF]
      refine ⟨⟨h.put.m9, h.put.m5, h.put.mr, h.put.len, h.put.seen, ?_, h.put.base⟩, h.next, h.none, h.chg, h.ne, h.low⟩
      have hlow := hS.put.base
      refine Bag.perm ?_ (List.Perm.swap _ _ _)
      refine h.put.bag.cons (own1_ownsRow m14 rfl (by omega)) fun b hb y hy he => ?_
      simp only [Value.ownBlock, Option.some.injEq] at hb
      have := (hS.put.bag.lt y hy b he).2
      omega
    refine loop agree (σ := Nat × Value × List Place × List (Place × Value)) (fun t => [(3, pt p3 0), (5, pt p5 0), (6, .slice (some ⟨bb, 0, none⟩) n n), (10, .func (.func 101) #[] #[pt p9 0, pt p5 0]), (13, .int .i64 i), (14, pt p14 0), (80, .slice ua (fromS g.edges f).length uc), (81, .int .i64 (fromS g.edges f).length), (82, .int .i64 t.1)])
      (fun t w' => t.1 ≤ (fromS g.edges f).length ∧ Reach g x i t.2.2.1 ∧ (∃ more, t.2.2.1 = all ++ more) ∧ RunS w8 w' w11.heap.size p9 p5 r ms mn [pv, .int .i64 g.states, .slice ia g.init.length ic, .slice ea g.edges.length ec, sv, stv, lov] t.2.1 t.2.2.1 t.2.2.2 (curS g x (all.take i) all[i] (succOf ((fromS g.edges f).take t.1) x at_)) [(.slice (some ⟨p14, 0, none⟩) 1 1, pcells all[i])] ∧
        ∀ q ∈ succOf ((fromS g.edges f).take t.1) x at_, q ∈ t.2.2.1)
      (fun t => (fromS g.edges f).length - t.1) (0, .slice (some ⟨b, o, none⟩) all.length avc, all, nl)
      ⟨rfl, rfl, rfl, rfl, rfl, rfl, rfl, rfl, rfl, trivial⟩ ⟨by omega, hR, ⟨[], by simp⟩, by simpa [succOf] using hS0, by simp [succOf]⟩ ?_
    rintro ⟨j, av2, all2, nl2⟩ env4 w17 ⟨hj2, hR2, ⟨more, hmore⟩, hS2, hq2⟩
    simp only at hj2 hR2 hmore hS2 hq2
    subst hmore
    refine sp (fun hlt2 => ?_) (fun hge3 => ?_)
    · have hj' : j < (fromS g.edges f).length := by omega
      obtain ⟨e, he⟩ : ∃ e, e = (fromS g.edges f)[j] := ⟨_, rfl⟩
      have hej : (fromS g.edges f)[j]? = some e := by rw [he]; simp
      obtain ⟨b3, o3, rfl, hlo3, hhi3, cs3, hcs3, hrd3, rfl, hwf3⟩ := hel j e hej
      have heg : e ∈ g.edges := (List.mem_filter.1 (List.mem_of_getElem? hej)).1
      have hefr : e.frm = f := by have := (List.mem_filter.1 (List.mem_of_getElem? hej)).2; simpa using this
      have heto := hg.edges e heg
      refine ne ⟨by omega, hlt2⟩ ?_
      refine ld agree (v := e.val) (hS2.chg.range hrd3 (hlo8 _ hlo3)) (by rfl) ?_
      refine nd fun p16 w18 e18 s18 k18' m18 => ?_
      refine st agree (cs := [.int .i64 0, .int .i64 0, .int .u16 0, .int .u16 0]) m18 rfl (Nat.le_refl 4) rfl ?_
      intro w19 s19 k19 m19
      have m16 : Own w19 p16 52 e.cells := m19
      have kin2 : Kp w17 w19 := k18'.new e18 k19
      have k019 : Kp w w19 := ((k1.trans (k16.trans k68)).newS hS2.chg (fun k hk => by have := k1.size; have := k2.size; have := lt_of_heap mmn; omega)).trans kin2
      have m3' : Own w19 p3 44 [stv, lov] := kin2.own (hS2.chg.own ((k28).own m3 id) (fun hk => by omega)) id
      have hb14 : Own w17 p14 133 (pcells all[i]) := by
        obtain ⟨nn, hnn⟩ := hS2.put.bag.own (.slice (some ⟨p14, 0, none⟩) 1 1, pcells all[i]) (by simp)
        have : nn = 1 := by have := hnn.1; simp [pcells] at this; omega
        subst this
        exact ownsRow_own1 hnn
      have m14' : Own w19 p14 133 (pcells all[i]) := kin2.own hb14 id
      have A3 : ∀ W, Kp w19 W → Own W p3 44 [stv, lov] := fun W h => h.own m3' id
      have A14 : ∀ W, Kp w19 W → Own W p14 133 (pcells all[i]) := fun W h => h.own m14' id
      have A16 : ∀ W, Kp w19 W → Own W p16 52 e.cells := fun W h => h.own m16 id
      have hatl : at_ < 4611686018427387904 := by omega
      refine drawnK agree mixed 6 [1, 2, 3, 4, 0, 5] (by kernel_rfl) ?_
      conv => whnf
      refine ldk (v := .agg #[stv, lov]) agree rfl rfl (fun W h _ => Own.at_ (xs := [stv, lov]) (o := 0) (A3 W h) rfl) (by rfl) fun _ => ?_
      conv => whnf
      refine ldk (v := .int .i64 at_) agree rfl rfl (fun W h _ => Own.at_ (xs := [.int .i64 at_]) (A14 W h) (by show [Value.int .i64 all[i].2] = _; rw [hat])) (by rfl) fun _ => ?_
      conv => whnf
      refine callk (v := .int .u16 (x.at at_)) rfl rfl rfl callAt (fun W h _ => at_c (hw.chg (k019.trans h) (Nat.le_refl _) (Nat.le_refl _)) at_ hatl) fun _ => ?_
      conv => whnf
      refine ldk (v := e.val) agree rfl rfl (fun W h _ => Own.at_ (xs := e.cells) (o := 0) (A16 W h) rfl) (by rfl) fun _ => ?_
      conv => whnf
      refine callk (v := .bool (goesS e (x.at at_))) rfl rfl rfl callGoes (fun W h _ => goes_c W e (x.at at_)) fun _ => ?_
      conv => whnf
      intro W20 k20 _
      have htake : (fromS g.edges f).take (j + 1) = (fromS g.edges f).take j ++ [e] := by rw [he]; simp
      cases hgo : goesS e (x.at at_) with
      | false =>
        refine aw (by omega) (by omega) ?_
        have hsucc : succOf ((fromS g.edges f).take (j + 1)) x at_ = succOf ((fromS g.edges f).take j) x at_ := by
          rw [htake]
          simp [succOf, hgo]
        refine again (j + 1, av2, all ++ more, nl2) ⟨rfl, rfl, rfl, rfl, rfl, rfl, rfl, rfl, rfl, trivial⟩ ⟨by simp only; omega, hR2, ⟨more, rfl⟩, ?_, ?_⟩ (by simp only; omega)
        · simp only [hsucc]
          exact hS2.kp (kin2.trans k20)
        · simp only [hsucc]
          exact hq2
      | true =>
        have B3 : ∀ W, Kp W20 W → Own W p3 44 [stv, lov] := fun W h => A3 W (k20.trans h)
        have B14 : ∀ W, Kp W20 W → Own W p14 133 (pcells all[i]) := fun W h => A14 W (k20.trans h)
        have B16 : ∀ W, Kp W20 W → Own W p16 52 e.cells := fun W h => A16 W (k20.trans h)
        refine drawnK agree mixed 8 [2, 3, 4, 5, 0, 1, 6, 7] (by kernel_rfl) ?_
        conv => whnf
        refine ldk (v := .agg #[stv, lov]) agree rfl rfl (fun W h _ => Own.at_ (xs := [stv, lov]) (o := 0) (B3 W h) rfl) (by rfl) fun _ => ?_
        conv => whnf
        refine ldk (v := .int .i64 at_) agree rfl rfl (fun W h _ => Own.at_ (xs := [.int .i64 at_]) (B14 W h) (by show [Value.int .i64 all[i].2] = _; rw [hat])) (by rfl) fun _ => ?_
        conv => whnf
        refine callk (v := .int .i64 (x.behind at_)) rfl rfl rfl callBehind (fun W h _ => behindV_c (hw.chg (k019.trans (k20.trans h)) (Nat.le_refl _) (Nat.le_refl _)) at_ hatl) fun _ => ?_
        conv => whnf
        refine ldk (v := .int .i64 e.to) agree rfl rfl (fun W h _ => Own.at_ (xs := [.int .i64 e.to]) (B16 W h) rfl) (by rfl) fun _ => ?_
        conv => whnf
        refine alk rfl rfl fun p17 D17 hD17 => ?_
        conv => whnf
        intro W21 k21 hDs21
        obtain ⟨m17, hp17⟩ := hD17 W21 (hDs21 7)
        refine st agree m17 rfl (Nat.le_refl 2) rfl ?_
        intro W22 s22 k22 m22
        have m17' : Own W22 p17 133 (pcells (e.to, x.behind at_)) := m22
        have kall : Kp w17 W22 := (kin2.trans k20).trans (k21.newS k22 fun k hk => hk ▸ hp17)
        have hS3 := hS2.kp kall
        have m14'' : Own W22 p14 133 (pcells all[i]) := kall.own hb14 id
        obtain ⟨sj, hsj⟩ : ∃ sj, sj = succOf ((fromS g.edges f).take j) x at_ := ⟨_, rfl⟩
        rw [← hsj] at hS3 hq2
        have hFp : curS g x (all.take i) all[i] sj all[i] = sj := by simp [curS]
        have hrow := hS3.row all[i]
        rw [hFp] at hrow
        have hsjl : sj.length ≤ j := by
          rw [hsj]
          simp only [succOf, List.length_map]
          exact Nat.le_trans (List.length_filter_le _ _) (by simp; omega)
        obtain ⟨es, clock, hmn, -⟩ := hS3.next.h
        have hvm : (aget nl2 nilS all[i]).ownBlock ≠ some mn := ownsRow_ne hrow hmn (by simp)
        have hvl : ∀ k, (aget nl2 nilS all[i]).ownBlock = some k → k < W22.heap.size := fun k hk => (hrow.lt k hk).2
        have hne : ∀ {b t cs}, Own W22 b t cs → t ≠ 133 → ¬ (b = mn ∨ some b = (aget nl2 nilS all[i]).ownBlock) := fun {b t cs} ho ht hk => by
          rcases hk with hk | hk
          · exact hS3.next.ne ho hk
          · exact ownsRow_ne hrow ho (fun cs fr hh => by injection hh with _ h2; exact ht h2) hk.symm
        have hn17 : ¬ (p17 = mn ∨ some p17 = (aget nl2 nilS all[i]).ownBlock) := fun hk => by
          rcases hk with hk | hk
          · exact hS3.next.ne m17' hk
          · have := ((hS2.row all[i]).lt p17 hk.symm).2
            have := (kin2.trans k20).size
            omega
        have hn14 : ¬ (p14 = mn ∨ some p14 = (aget nl2 nilS all[i]).ownBlock) := fun hk => by
          rcases hk with hk | hk
          · exact hS3.next.ne m14'' hk
          · have hsep := hS3.put.bag.tail.sep
            rw [List.singleton_append, List.pairwise_cons] at hsep
            cases hal : alook nl2 all[i] with
            | none => simp [aget, hal, Value.ownBlock] at hk
            | some v =>
              simp only [aget, hal, Option.getD_some] at hk
              exact hsep.1 _ (List.mem_map.2 ⟨_, alook_some_mem hal, rfl⟩) p14 rfl hk.symm
        have hpre := preMapAppR Proofs.Try.prog 133 pval (fun v : Value => v) nilS mn all[i] W22 (aget nl2 nilS all[i]) (sj.length * 2) (pcells (e.to, x.behind at_))
        have hpb : I64 all[i].1 ∧ I64 all[i].2 := ⟨⟨by omega, by omega⟩, ⟨by omega, by omega⟩⟩
        have hwsz : w11.heap.size ≤ W22.heap.size := hS3.put.base
        refine drawnR agree mixed 11 (by kernel_rfl) _ hpre ?_
        conv => whnf
        refine ldr (v := pt r 0) hpre agree rfl rfl (fun W h _ => h.chg.range (Own.at_ (xs := [pt r 0]) hS3.put.m5 rfl) (hne hS3.put.m5 (by decide))) (by rfl) fun _ => ?_
        conv => whnf
        refine ldr (v := .map (some mn)) hpre agree rfl rfl (fun W h _ => h.chg.range (Own.at_ (xs := [.map (some mn)]) hS3.put.mr rfl) (hne hS3.put.mr (by decide))) (by rfl) fun _ => ?_
        conv => whnf
        refine ldr (v := pval all[i]) hpre agree rfl rfl (fun W h _ => h.chg.range (Own.at_ (xs := pcells all[i]) (o := 0) m14'' rfl) hn14) (by rfl) fun _ => ?_
        conv => whnf
        refine ldr (v := pval (e.to, x.behind at_)) hpre agree rfl rfl (fun W h _ => h.chg.range (Own.at_ (xs := pcells (e.to, x.behind at_)) (o := 0) m17' rfl) hn17) (by rfl) fun _ => ?_
        conv => whnf
        refine bsr hpre rfl rfl rfl rfl rfl (by decide) (fun b o W W' hb ho hS => hS.chg.heap ho fun hc => by
          rcases hc with hc | hc
          · have := lt_of_heap hmn; omega
          · have := hvl b hc.symm; omega) (fun W hS => hS.chg.size) fun q2 D hD => ?_
        conv => whnf
        refine enrS agree placeKeyed (t := 126) (MapAppR.bearsMap (lt_of_heap hmn) hvm) rfl rfl rfl rfl rfl rfl (z := nilS) rfl hS3.next (placeKey hpb.1 hpb.2) fun st Den hDen => ?_
        conv => whnf
        refine aprS (m := 1) (news := pcells (e.to, x.behind at_)) agree (MapAppR.bearsApp (lt_of_heap hmn) hvm hvl) rfl rfl rfl rfl rfl rfl rfl (by decide) hrow rfl (fun W hS hDn => Own.at_ (xs := pcells (e.to, x.behind at_)) (o := 0) (hD W (hDn 6 (by kernel_rfl))).1 rfl) rfl (by simp only [maxLen]; omega) (by show (_ + 1) * 16 ≤ _; omega) hwsz fun v' D2 hD2 => ?_
        conv => whnf
        intro W23 hS23 hDs23
        obtain ⟨hown', hnew⟩ := hD2 W23 (hDs23 9)
        obtain ⟨x1, hen, he1⟩ := hDen W23 (hDs23 7)
        obtain ⟨a', cap', rfl⟩ := ownsRow_form hown'
        refine mu (hen.store (.slice a' (sj.length + 1) cap')) ?_
        rintro W24 ⟨hm24, hs24, hc24⟩
        rw [he1.put] at hm24
        have hc : Chg (fun b => b = mn ∨ some b = (aget nl2 nilS all[i]).ownBlock) W22 W24 := hS23.chg.trans (hc24.mono fun _ => .inl)
        obtain ⟨es3, clock3, hmn3, -⟩ := hen.mapE.h
        have hown24 := ownsRow_chg hown' hc24 (fun b hb he => ownsRow_ne hown' hmn3 (by simp) (he ▸ hb))
        have hS4 := hS3.next_ (p := all[i]) (q := (e.to, x.behind at_)) hc hm24 (by rw [hFp]; exact hown24) hnew
        have m17W := hc.own m17' hn17
        refine ld agree (v := pval (e.to, x.behind at_)) (Own.at_ (xs := pcells (e.to, x.behind at_)) (o := 0) m17W rfl) (by rfl) ?_
        have hbl := behind_lt hx (i := at_) (by omega)
        have hbq : I64 ((e.to, x.behind at_) : Place).1 ∧ I64 ((e.to, x.behind at_) : Place).2 := ⟨⟨by simp only; omega, by simp only; omega⟩, ⟨by simp only; omega, by simp only; omega⟩⟩
        have hlen2 := hR2.len hg hx hP
        have hcall := put_c hS4.put hbq.1 hbq.2 hlen2
        refine cl callPut hcall ?_
        rintro v'' W25 ⟨av', hp', hc', hnew'⟩
        have hS5 := hS4.step hp' hc'
        refine aw (by omega) (by omega) ?_
        have hsucc : succOf ((fromS g.edges f).take (j + 1)) x at_ = sj ++ [(e.to, x.behind at_)] := by
          rw [htake, hsj]
          simp [succOf, hgo]
        have hin : (e.to, x.behind at_) ∈ succ g x all[i] := by
          unfold succ succOf
          rw [hf, hat, Int.toNat_natCast]
          exact List.mem_map.2 ⟨e, List.mem_filter.2 ⟨List.mem_of_getElem? hej, hgo⟩, rfl⟩
        refine again (j + 1, av', putP (all ++ more) (e.to, x.behind at_), aput nl2 all[i] (.slice a' (sj.length + 1) cap')) ⟨rfl, rfl, rfl, rfl, rfl, rfl, rfl, rfl, rfl, trivial⟩ ⟨by simp only; omega, ?_, ?_, ?_, ?_⟩ (by simp only; omega)
        · exact hR2.put (by simp; omega) (.inr ⟨all[i], by simp, hin⟩)
        · show ∃ more', putP (all ++ more) _ = all ++ more'
          unfold putP
          split
          · exact ⟨more, rfl⟩
          · exact ⟨more ++ [(e.to, x.behind at_)], by simp⟩
        · have hFF : (fun a => if a = all[i] then curS g x (all.take i) all[i] sj all[i] ++ [(e.to, x.behind at_)] else curS g x (all.take i) all[i] sj a) = curS g x (all.take i) all[i] (succOf ((fromS g.edges f).take (j + 1)) x at_) := by
            funext a
            rw [hsucc, hFp]
            by_cases ha : a = all[i] <;> simp [curS, ha]
          show RunS w8 W25 w11.heap.size p9 p5 r ms mn _ av' (putP (all ++ more) (e.to, x.behind at_)) _ (curS g x (all.take i) all[i] (succOf ((fromS g.edges f).take (j + 1)) x at_)) _
          rw [← hFF]
          exact hS5
        · intro a ha
          rw [show succOf (List.take (j + 1) (fromS g.edges f)) x at_ = _ from hsucc] at ha
          rcases List.mem_append.1 ha with ha | ha
          · exact mem_putP.2 (.inl (hq2 a ha))
          · exact mem_putP.2 (.inr (by simpa using ha))
    have htk : (fromS g.edges f).take j = fromS g.edges f := List.take_of_length_le (by omega)
    rw [htk] at hS2 hq2
    have hsucc : succOf (fromS g.edges f) x at_ = succ g x all[i] := by
      unfold succ
      rw [hf, hat, Int.toNat_natCast]
    rw [hsucc] at hS2 hq2
    have htk2 : (all ++ more).take (i + 1) = all.take i ++ [all[i]] := by
      rw [List.take_append_of_le_length (by omega)]; simp
    have hFF : curS g x (all.take i) all[i] (succ g x all[i]) = doneS g x ((all ++ more).take (i + 1)) := by
      rw [htk2]
      exact curS_done _ _ _ _
    refine aw (by omega) (by omega) ?_
    refine again (i + 1, av2, all ++ more, nl2) ⟨rfl, rfl, rfl, rfl, rfl, trivial⟩ ⟨?_, ?_, ?_, ?_⟩ ?_
    · simp only [List.length_append]; omega
    · refine ⟨hR2.nodup, fun p hp q hq => ?_, hR2.least⟩
      simp only at hp ⊢
      rw [htk2] at hp
      rcases List.mem_append.1 hp with hp | hp
      · exact List.mem_append_left _ (hR.closed p hp q hq)
      · simp only [List.mem_singleton] at hp
        exact hq2 q (hp ▸ hq)
    · exact fun s hs => List.mem_append_left _ (hI s hs)
    · simp only
      rw [← hFF]
      have hb := hS2.put.bag.perm (List.Perm.swap _ _ _)
      exact ⟨⟨hS2.put.m9, hS2.put.m5, hS2.put.mr, hS2.put.len, hS2.put.seen, hb.tail, hS2.put.base⟩, hS2.next, hS2.none, hS2.chg, hS2.ne, hS2.low⟩
    · have := box_len hR.nodup hg (hR.box hg hx)
      simp only
      omega
  refine ld agree (Own.at_ (xs := [pt r 0]) hS.put.m5 rfl) (by rfl) ?_
  have hall2 : all.take i = all := List.take_of_length_le (by omega)
  have k014 : Kp w w14 := (k1.trans (k16.trans k68)).newS hS.chg (fun k hk => by have := k1.size; have := k2.size; have := lt_of_heap mmn; omega)
  obtain ⟨es, clock, hmn, -⟩ := hS.next.h
  refine ⟨k014, r, all, rfl, ⟨hR.nodup, hI, fun p hp => hR.closed p (by rwa [hall2]), hR.least⟩, ⟨_, _, _, _, _, _, mn, _, nl, hS.put.mr, ?_, hS.put.mr.lt, ?_, lt_of_heap hmn, ?_, ?_, hS.next, ?_⟩⟩
  · have := k1.size; have := k2.size; have := lt_of_heap mmn; omega
  · have := k1.size; have := k2.size; have := lt_of_heap mmn; omega
  · exact hv.chg k014 (Nat.le_refl _) k014.size
  · exact (ownsRow_row (f := pcells) (fun _ => rfl) hav (by decide)).mono (fun _ _ h => h) (Nat.zero_le _) (Nat.le_refl _)
  · intro p hp
    have := hS.row p
    rw [hall2, show doneS g x all p = succ g x p by simp [doneS, hp]] at this
    exact (ownsRow_row (f := pcells) (fun _ => rfl) this (by decide)).mono (fun _ _ h => h) (Nat.zero_le _) (Nat.le_refl _)
theorem callBeside : callable Proofs.Try.prog 67 = true := by kernel_rfl
end Go.Au

namespace Go.Au
open Go Go.RowKit Go.MapKept
open Go.Maps (Keyed)

def ones {α : Type} (l : List α) : List (α × Int) := l.map fun p => (p, 1)
/-- among some places, one comes to one of these by one step or more -/
inductive Comes (g : General) (x : Word) (lin lto : List Place) : Place → Prop
  | one {p q : Place} : p ∈ lin → q ∈ succ g x p → q ∈ lin → q ∈ lto → Comes g x lin lto p
  | more {p q : Place} : p ∈ lin → q ∈ succ g x p → q ∈ lin → Comes g x lin lto q → Comes g x lin lto p

structure BefI (g : General) (x : Word) (all lin lto lout : List Place) : Prop where
  nodup : lout.Nodup
  sub : ∀ p ∈ lout, p ∈ all
  comes : ∀ p ∈ lout, Comes g x lin lto p
def hit (lin lto lout : List Place) (q : Place) : Prop := q ∈ lin ∧ (q ∈ lto ∨ q ∈ lout)
/-- nothing is to be added for this one -/
def still (g : General) (x : Word) (lin lto lout : List Place) (p : Place) : Prop := p ∈ lin → p ∉ lout → ∀ q ∈ succ g x p, ¬ hit lin lto lout q

theorem get1 {w : World} {m : Nat} {l : List Place} (h : OnesE w m (ones l)) {p : Place} (h1 : I64 p.1) (h2 : I64 p.2) :
    (Instr.lookup 131 (.map (some m)) (pval p) false).run Proofs.Try.prog w = .ok (.int .i64 (if p ∈ l then 1 else 0)) w := by
  have hg := MapE.get agree placeKeyed (t := 131) rfl rfl rfl rfl (z := 0) h p (placeKey h1 h2)
  rw [ones, aget_ones] at hg
  exact hg

set_option maxHeartbeats 4000000 in
theorem before_c {w : World} {lo hi r mi mt : Nat} {g : General} {x : Word} {all lin lto : List Place} (hr : RunV lo hi w r g x all) (ha : AllOf g x all) (hg : Good g) (hx : x.loop.length ≠ 0) (hP : x.places < 1048576) (hE : g.edges.length < 1099511627776)
    (hi_ : OnesE w mi (ones lin)) (ht : OnesE w mt (ones lto)) :
    Calls Proofs.Try.prog 104 [pt r 0, .map (some mi), .map (some mt)].toArray w (Ret fun v w' => Kp w w' ∧ ∃ mo lout, v = .map (some mo) ∧ OnesE w' mo (ones lout) ∧ w.heap.size ≤ mo ∧ lout.Nodup ∧ ∀ p, p ∈ lout ↔ p ∈ all ∧ Comes g x lin lto p) := by
  obtain ⟨pv, iv, ev, sv, stv, lov, mn, av, nl, mr, hr1, hr2, hn1, hn2, hgv, hav, hnext, hrows⟩ := hr.h
  have hbox := ha.box hg hx
  have hlen : all.length < 1099511627776 := by
    have h1 := box_len ha.nodup hg hbox
    have h2 : g.states.toNat * x.places ≤ 65536 * 1048576 := Nat.mul_le_mul (by have := hg.s1; omega) (by omega)
    omega
  have hI : ∀ p ∈ all, I64 p.1 ∧ I64 p.2 := fun p hp => by
    obtain ⟨a, b, c, d⟩ := hbox p hp
    have := hg.s1
    exact ⟨⟨by omega, by omega⟩, ⟨by omega, by omega⟩⟩
  obtain ⟨ava, avc, rfl, havc, hread⟩ := hav
  refine call agree Proofs.Try.func104 rfl Proofs.Try.ntmps104 (by kernel_rfl) ?_
  refine nd fun mo w1 e1 s1 k1 m1 => ?_
  have hmo : OnesE w1 mo (ones []) := MapE.made m1 pval_inj
  refine loop agree (σ := Bool × List Place) (fun t => [(0, pt r 0), (1, .map (some mi)), (2, .map (some mt)), (7, .map (some mo)), (8, .bool t.1)])
    (fun t W => Kp w W ∧ OnesE W mo (ones t.2) ∧ BefI g x all lin lto t.2 ∧ (t.1 = false → ∀ p ∈ all, still g x lin lto t.2 p)) (fun t => (all.length - t.2.length) * 2 + (if t.1 then 1 else 0)) (true, [])
    ⟨rfl, rfl, rfl, rfl, rfl, trivial⟩ ⟨k1, hmo, ⟨by simp, by simp, by simp⟩, by simp⟩ ?_
  rintro ⟨more, lout⟩ env W ⟨k2, hm2, hB, hst⟩
  cases more with
  | false =>
    have hst := hst rfl
    refine ⟨k2, mo, lout, rfl, hm2, by omega, hB.nodup, fun p => ⟨fun hp => ⟨hB.sub p hp, hB.comes p hp⟩, fun ⟨hpa, hc⟩ => ?_⟩⟩
    simp only at hst
    induction hc with
    | one h1 h2 h3 h4 => exact Classical.byContradiction fun hn => hst _ hpa h1 hn _ h2 ⟨h3, .inl h4⟩
    | more h1 h2 h3 h4 ih => exact Classical.byContradiction fun hn => hst _ hpa h1 hn _ h2 ⟨h3, .inr (ih ⟨ha.closed _ hpa _ h2, h4⟩ (ha.closed _ hpa _ h2))⟩
  | true =>
    refine ld agree (Own.at_ (xs := [.slice ava all.length avc]) (k2.own mr id) rfl) (by rfl) ?_
    refine loop agree (σ := Nat × Bool × List Place) (fun t => [(0, pt r 0), (1, .map (some mi)), (2, .map (some mt)), (7, .map (some mo)), (8, .bool t.2.1), (18, .slice ava all.length avc), (19, .int .i64 all.length), (20, .int .i64 t.1)])
      (fun t W => t.1 ≤ all.length ∧ Kp w W ∧ OnesE W mo (ones t.2.2) ∧ BefI g x all lin lto t.2.2 ∧ (t.2.1 = false → t.2.2 = lout ∧ ∀ p ∈ all.take t.1, still g x lin lto lout p) ∧ (t.2.1 = true → lout.length < t.2.2.length)) (fun t => all.length - t.1) (0, false, lout)
      ⟨rfl, rfl, rfl, rfl, rfl, rfl, rfl, rfl, trivial⟩ ⟨by omega, k2, hm2, hB, by simp, by simp⟩ ?_
    rintro ⟨i, more, lout2⟩ env2 W3 ⟨hi3, k3, hm3, hB3, hs3, ht3⟩
    simp only at hi3 hm3 hB3 hs3 ht3
    refine sp (fun hlt => ?_) (fun hge => ?_)
    · have hi' : i < all.length := by omega
      obtain ⟨b, o, rfl, hlo, hhi, cs, hcs, hrd, rfl⟩ := hread i all[i] (by simp)
      have hp := hI all[i] (by simp)
      refine ne ⟨by omega, hlt⟩ ?_
      refine ld agree (v := pval all[i]) (k3.range hrd id) rfl ?_
      refine nd fun p10 w4 e4 s4 k4 m4 => ?_
      refine st agree (cs := [.int .i64 0, .int .i64 0]) m4 rfl (Nat.le_refl 2) rfl ?_
      intro w5 s5 k5 m5
      have m10 : Own w5 p10 133 (pcells all[i]) := m5
      have k35 : Kp W3 w5 := k4.new e4 k5
      have hm5 : OnesE w5 mo (ones lout2) := hm3.chg k35 id
      refine ld agree (v := pval all[i]) (Own.at_ (xs := pcells all[i]) (o := 0) m10 rfl) (by rfl) ?_
      refine lk (get1 ((hi_.chg k3 id).chg k35 id) hp.1 hp.2) ?_
      have hsnoc : all.take (i + 1) = all.take i ++ [all[i]] := by simp
      have skip : still g x lin lto lout all[i] ∨ more = true → ∀ W, Kp W3 W → OnesE W mo (ones lout2) → ∀ e',
          Has e' [(0, pt r 0), (1, .map (some mi)), (2, .map (some mt)), (7, .map (some mo)), (8, .bool more), (18, .slice (some ⟨b, o, none⟩) all.length avc), (19, .int .i64 all.length), (20, .int .i64 (i + 1 : Nat))] → e' mark = undef →
          Again (σ := Nat × Bool × List Place) (fun t => [(0, pt r 0), (1, .map (some mi)), (2, .map (some mt)), (7, .map (some mo)), (8, .bool t.2.1), (18, .slice (some ⟨b, o, none⟩) all.length avc), (19, .int .i64 all.length), (20, .int .i64 t.1)])
            (fun t W => t.1 ≤ all.length ∧ Kp w W ∧ OnesE W mo (ones t.2.2) ∧ BefI g x all lin lto t.2.2 ∧ (t.2.1 = false → t.2.2 = lout ∧ ∀ p ∈ all.take t.1, still g x lin lto lout p) ∧ (t.2.1 = true → lout.length < t.2.2.length)) (fun t => all.length - t.1) (i, more, lout2) e' W := fun h W hW hmW e' he hmk =>
        again (hm := hmk) (i + 1, more, lout2) he ⟨by simp only; omega, k3.trans hW, hmW, hB3, fun hf => ⟨(hs3 hf).1, fun p hp' => by
          simp only [hsnoc] at hp'
          rcases List.mem_append.1 hp' with hp' | hp'
          · exact (hs3 hf).2 p hp'
          · simp only [List.mem_singleton] at hp'
            rw [hp']
            exact h.resolve_right fun h => by rw [h] at hf; cases hf⟩, ht3⟩ (by simp only; omega)
      by_cases hin : all[i] ∈ lin
      · rw [if_pos hin]
        refine spF (by decide) ?_
        refine ld agree (v := pval all[i]) (Own.at_ (xs := pcells all[i]) (o := 0) m10 rfl) (by rfl) ?_
        refine lk (get1 hm5 hp.1 hp.2) ?_
        by_cases hout : all[i] ∈ lout2
        · rw [if_pos hout]
          refine spT (by decide) ?_
          refine aw (by omega) (by omega) ?_
          refine skip ?_ w5 k35 hm5 _ ⟨rfl, rfl, rfl, rfl, rfl, rfl, rfl, rfl, trivial⟩ rfl
          cases more with
          | true => exact .inr rfl
          | false => exact .inl fun _ hn => absurd ((hs3 rfl).1 ▸ hout) hn
        · rw [if_neg hout]
          refine spF (by decide) ?_
          have hrow := hrows all[i] (by simp)
          obtain ⟨na, nc, hnv, hnc, hnr⟩ := id hrow
          have A10 : ∀ W, Kp w5 W → Own W p10 133 (pcells all[i]) := fun W h => h.own m10 id
          refine drawnK agree mixed 8 [0, 1, 2, 3, 4, 5, 6, 7] (by kernel_rfl) ?_
          conv => whnf
          refine ldk (v := .map (some mn)) agree rfl rfl (fun W h _ => Own.at_ (xs := [.map (some mn)]) ((k3.trans (k35.trans h)).own mr id) rfl) (by rfl) fun _ => ?_
          conv => whnf
          refine ldk (v := pval all[i]) agree rfl rfl (fun W h _ => Own.at_ (xs := pcells all[i]) (o := 0) (A10 W h) rfl) (by rfl) fun _ => ?_
          conv => whnf
          refine lkr (v := .slice na (succ g x all[i]).length nc) (preChg _) rfl (fun W h _ => by
            have := MapE.get agree placeKeyed (t := 126) rfl rfl rfl rfl (z := nilS) (hnext.chg (k3.trans (k35.trans h)) id) all[i] (placeKey hp.1 hp.2)
            rw [hnv] at this
            exact this) fun _ => ?_
          conv => whnf
          intro w6 k6 _
          have k36 : Kp W3 w6 := k35.trans k6
          have hsl : (succ g x all[i]).length < 1099511627776 := by
            unfold succ succOf fromS
            rw [List.length_map]
            exact Nat.lt_of_le_of_lt (Nat.le_trans (List.length_filter_le _ _) (List.length_filter_le _ _)) hE
          refine loop agree (σ := Nat) (fun j => [(0, pt r 0), (1, .map (some mi)), (2, .map (some mt)), (7, .map (some mo)), (8, .bool more), (10, pt p10 0), (18, .slice (some ⟨b, o, none⟩) all.length avc), (19, .int .i64 all.length), (20, .int .i64 i), (39, .slice na (succ g x all[i]).length nc), (40, .int .i64 (succ g x all[i]).length), (41, .int .i64 j)])
            (fun j W => Kp w6 W ∧ j ≤ (succ g x all[i]).length ∧ ∀ q ∈ (succ g x all[i]).take j, ¬ hit lin lto lout2 q) (fun j => (succ g x all[i]).length - j) 0
            ⟨rfl, rfl, rfl, rfl, rfl, rfl, rfl, rfl, rfl, rfl, rfl, rfl, trivial⟩ ⟨Chg.refl _ _, by omega, by simp⟩ ?_
          rintro j env3 w7 ⟨k7, hj, hno⟩
          refine sp (fun hlt2 => ?_) (fun hge2 => ?_)
          · have hj' : j < (succ g x all[i]).length := by omega
            obtain ⟨q, hq⟩ : ∃ q, q = (succ g x all[i])[j] := ⟨_, rfl⟩
            have hqj : (succ g x all[i])[j]? = some q := by rw [hq]; simp
            have hqs : q ∈ succ g x all[i] := List.mem_of_getElem? hqj
            have hqa := ha.closed all[i] (by simp) q hqs
            have hqI := hI q hqa
            obtain ⟨b3, o3, rfl, hlo3, hhi3, cs3, hcs3, hrd3, rfl⟩ := hnr j q hqj
            refine ne ⟨by omega, hlt2⟩ ?_
            refine ld agree (v := pval q) ((k3.trans (k36.trans k7)).range hrd3 id) (by rfl) ?_
            refine nd fun p12 w8 e8 s8 k8 m8 => ?_
            refine st agree (cs := [.int .i64 0, .int .i64 0]) m8 rfl (Nat.le_refl 2) rfl ?_
            intro w9 s9 k9 m9
            have m12 : Own w9 p12 133 (pcells q) := m9
            have k39 : Kp W3 w9 := k36.trans (k7.trans (k8.new e8 k9))
            have k69 : Kp w6 w9 := k7.trans (k8.new e8 k9)
            have hm9 : OnesE w9 mo (ones lout2) := hm3.chg k39 id
            refine ld agree (v := pval q) (Own.at_ (xs := pcells q) (o := 0) m12 rfl) (by rfl) ?_
            refine lk (get1 (hi_.chg (k3.trans k39) id) hqI.1 hqI.2) ?_
            by_cases c1 : q ∈ lin
            · rw [if_pos c1]
              refine spT (by decide) ?_
              refine ld agree (v := pval q) (Own.at_ (xs := pcells q) (o := 0) m12 rfl) (by rfl) ?_
              refine lk (get1 (ht.chg (k3.trans k39) id) hqI.1 hqI.2) ?_
              by_cases c2 : q ∈ lto
              · rw [if_pos c2]
                refine spT (by decide) ?_
                have hh : hit lin lto lout2 q := ⟨c1, .inl c2⟩
                have hpre := preMapR Proofs.Try.prog 133 pval (fun n : Int => .int .i64 n) 0 mo all[i]
                have m10' : Own w9 p10 133 (pcells all[i]) := (k6.trans k69).own m10 id
                have n10 : p10 ≠ mo := hm9.ne m10'
                refine drawnR agree mixed 6 (by kernel_rfl) _ hpre ?_
                conv => whnf
                refine ldr (v := pval all[i]) hpre agree rfl rfl (fun W h _ => h.chg.range (Own.at_ (xs := pcells all[i]) (o := 0) m10' rfl) n10) (by rfl) fun _ => ?_
                conv => whnf
                refine lkr (v := .int .i64 0) hpre rfl (fun W h _ => by
                  obtain ⟨x1, hm1, he1⟩ := h.map _ hm9
                  have := MapE.get agree placeKeyed (t := 131) rfl rfl rfl rfl (z := 0) hm1 all[i] (placeKey hp.1 hp.2)
                  rw [he1.get, ones, aget_ones, if_neg hout] at this
                  exact this) fun _ => ?_
                conv => whnf
                refine aw (by omega) (by omega) ?_
                conv => whnf
                refine enr agree placeKeyed (t := 131) rfl rfl rfl rfl rfl rfl (z := 0) rfl hm9 (placeKey hp.1 hp.2) fun st D hD => ?_
                conv => whnf
                intro W10 hW10 hDs
                obtain ⟨x1, hen, he1⟩ := hD W10 (hDs 4)
                refine mu (hen.store 1) ?_
                rintro w11 ⟨hm11, hs11, hc11⟩
                have hones : aput x1 all[i] 1 = ones (lout2 ++ [all[i]]) := by
                  rw [he1.put, ones, ones, aput_new fun y hy he => by
                    obtain ⟨z, hz, rfl⟩ := List.mem_map.1 hy
                    exact hout (he ▸ hz)]
                  simp
                rw [hones] at hm11
                refine aw (by omega) (by omega) ?_
                have k11 : Kp w w11 := (k3.trans k39).newS (hW10.chg.trans hc11) fun k hk => by omega
                refine again (i + 1, true, lout2 ++ [all[i]]) ⟨rfl, rfl, rfl, rfl, rfl, rfl, rfl, rfl, trivial⟩ ⟨by simp only; omega, k11, hm11, ⟨?_, ?_, ?_⟩, (fun hf => by cases hf), fun _ => ?_⟩ (by simp only; omega)
                · simp only
                  rw [List.nodup_append]
                  refine ⟨hB3.nodup, by simp, fun a ha b hb he => ?_⟩
                  simp only [List.mem_singleton] at hb
                  exact hout (hb ▸ he ▸ ha)
                · intro p hpm
                  rcases List.mem_append.1 hpm with hpm | hpm
                  · exact hB3.sub p hpm
                  · simp only [List.mem_singleton] at hpm
                    rw [hpm]; simp
                · intro p hpm
                  rcases List.mem_append.1 hpm with hpm | hpm
                  · exact hB3.comes p hpm
                  · simp only [List.mem_singleton] at hpm
                    rw [hpm]
                    rcases hh.2 with h | h
                    · exact .one hin hqs hh.1 h
                    · exact .more hin hqs hh.1 (hB3.comes q h)
                · simp only [List.length_append, List.length_singleton]
                  cases more with
                  | true => have := ht3 rfl; omega
                  | false => rw [(hs3 rfl).1]; omega
              · rw [if_neg c2]
                refine spF (by decide) ?_
                refine ld agree (v := pval q) (Own.at_ (xs := pcells q) (o := 0) m12 rfl) (by rfl) ?_
                refine lk (get1 hm9 hqI.1 hqI.2) ?_
                by_cases c3 : q ∈ lout2
                · rw [if_pos c3]
                  refine spT (by decide) ?_
                  have hh : hit lin lto lout2 q := ⟨c1, .inr c3⟩
                  have hpre := preMapR Proofs.Try.prog 133 pval (fun n : Int => .int .i64 n) 0 mo all[i]
                  have m10' : Own w9 p10 133 (pcells all[i]) := (k6.trans k69).own m10 id
                  have n10 : p10 ≠ mo := hm9.ne m10'
                  refine drawnR agree mixed 6 (by kernel_rfl) _ hpre ?_
                  conv => whnf
                  refine ldr (v := pval all[i]) hpre agree rfl rfl (fun W h _ => h.chg.range (Own.at_ (xs := pcells all[i]) (o := 0) m10' rfl) n10) (by rfl) fun _ => ?_
                  conv => whnf
                  refine lkr (v := .int .i64 0) hpre rfl (fun W h _ => by
                    obtain ⟨x1, hm1, he1⟩ := h.map _ hm9
                    have := MapE.get agree placeKeyed (t := 131) rfl rfl rfl rfl (z := 0) hm1 all[i] (placeKey hp.1 hp.2)
                    rw [he1.get, ones, aget_ones, if_neg hout] at this
                    exact this) fun _ => ?_
                  conv => whnf
                  refine aw (by omega) (by omega) ?_
                  conv => whnf
                  refine enr agree placeKeyed (t := 131) rfl rfl rfl rfl rfl rfl (z := 0) rfl hm9 (placeKey hp.1 hp.2) fun st D hD => ?_
                  conv => whnf
                  intro W10 hW10 hDs
                  obtain ⟨x1, hen, he1⟩ := hD W10 (hDs 4)
                  refine mu (hen.store 1) ?_
                  rintro w11 ⟨hm11, hs11, hc11⟩
                  have hones : aput x1 all[i] 1 = ones (lout2 ++ [all[i]]) := by
                    rw [he1.put, ones, ones, aput_new fun y hy he => by
                      obtain ⟨z, hz, rfl⟩ := List.mem_map.1 hy
                      exact hout (he ▸ hz)]
                    simp
                  rw [hones] at hm11
                  refine aw (by omega) (by omega) ?_
                  have k11 : Kp w w11 := (k3.trans k39).newS (hW10.chg.trans hc11) fun k hk => by omega
                  refine again (i + 1, true, lout2 ++ [all[i]]) ⟨rfl, rfl, rfl, rfl, rfl, rfl, rfl, rfl, trivial⟩ ⟨by simp only; omega, k11, hm11, ⟨?_, ?_, ?_⟩, (fun hf => by cases hf), fun _ => ?_⟩ (by simp only; omega)
                  · simp only
                    rw [List.nodup_append]
                    refine ⟨hB3.nodup, by simp, fun a ha b hb he => ?_⟩
                    simp only [List.mem_singleton] at hb
                    exact hout (hb ▸ he ▸ ha)
                  · intro p hpm
                    rcases List.mem_append.1 hpm with hpm | hpm
                    · exact hB3.sub p hpm
                    · simp only [List.mem_singleton] at hpm
                      rw [hpm]; simp
                  · intro p hpm
                    rcases List.mem_append.1 hpm with hpm | hpm
                    · exact hB3.comes p hpm
                    · simp only [List.mem_singleton] at hpm
                      rw [hpm]
                      rcases hh.2 with h | h
                      · exact .one hin hqs hh.1 h
                      · exact .more hin hqs hh.1 (hB3.comes q h)
                  · simp only [List.length_append, List.length_singleton]
                    cases more with
                    | true => have := ht3 rfl; omega
                    | false => rw [(hs3 rfl).1]; omega
                · rw [if_neg c3]
                  refine spF (by decide) ?_
                  refine aw (by omega) (by omega) ?_
                  refine again (j + 1) ⟨rfl, rfl, rfl, rfl, rfl, rfl, rfl, rfl, rfl, rfl, rfl, rfl, trivial⟩ ⟨k69, by omega, fun y hy => ?_⟩ (by omega)
                  rw [show (succ g x all[i]).take (j + 1) = (succ g x all[i]).take j ++ [q] by rw [hq]; simp] at hy
                  rcases List.mem_append.1 hy with hy | hy
                  · exact hno y hy
                  · simp only [List.mem_singleton] at hy
                    rw [hy]
                    exact fun h => h.2.elim c2 c3
            · rw [if_neg c1]
              refine spF (by decide) ?_
              refine aw (by omega) (by omega) ?_
              refine again (j + 1) ⟨rfl, rfl, rfl, rfl, rfl, rfl, rfl, rfl, rfl, rfl, rfl, rfl, trivial⟩ ⟨k69, by omega, fun y hy => ?_⟩ (by omega)
              rw [show (succ g x all[i]).take (j + 1) = (succ g x all[i]).take j ++ [q] by rw [hq]; simp] at hy
              rcases List.mem_append.1 hy with hy | hy
              · exact hno y hy
              · simp only [List.mem_singleton] at hy
                rw [hy]
                exact fun h => c1 h.1
          · refine aw (by omega) (by omega) ?_
            rw [List.take_of_length_le (by omega)] at hno
            refine skip ?_ w7 (k36.trans k7) (hm3.chg (k36.trans k7) id) _ ⟨rfl, rfl, rfl, rfl, rfl, rfl, rfl, rfl, trivial⟩ rfl
            cases more with
            | true => exact .inr rfl
            | false => exact .inl fun _ _ q hq => (hs3 rfl).1 ▸ hno q hq
      · rw [if_neg hin]
        refine spT rfl ?_
        refine aw (by omega) (by omega) ?_
        exact skip (.inl fun h => absurd h hin) w5 k35 hm5 _ ⟨rfl, rfl, rfl, rfl, rfl, rfl, rfl, rfl, trivial⟩ rfl
    have hall : all.take i = all := List.take_of_length_le (by omega)
    rw [hall] at hs3
    have hl2 := nodup_sub hB3.nodup hB3.sub
    refine again (more, lout2) ⟨rfl, rfl, rfl, rfl, rfl, trivial⟩ ⟨k3, hm3, hB3, fun hf => ?_⟩ ?_
    · simp only at hf
      simp only
      rw [(hs3 hf).1]
      exact (hs3 hf).2
    · cases more with
      | false => simp only [(hs3 rfl).1]; simp
      | true =>
        have := ht3 rfl
        simp only [if_true]
        omega
theorem callBefore : callable Proofs.Try.prog 104 = true := by kernel_rfl
end Go.Au
