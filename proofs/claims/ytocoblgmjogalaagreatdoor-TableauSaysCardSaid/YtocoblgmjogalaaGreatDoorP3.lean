/- Own text of this workplace: a part of the proofs of this place's statements. -/
import Derived.Lib.AppendZeros
import Derived.Laws.BytesString
import Derived.Laws.Cells
import Derived.Laws.Small
import Derived.Lib.Strings
import Derived.Lib.Slices
import Derived.Lib.Walk
import Derived.Lib.Bytealg
import Derived.Shelf.SortM.Plain
import Derived.Shelf.SortM.SortNone
import Derived.Shelf.SlSortCmp.NoneTotal
import Derived.Shelf.SlGeneric
import Derived.Ground.SlsfProg
import Derived.Ground.SlgmProg
import Derived.Test.YtocoblgmjogalaaGreatDoorChecked
import Derived.Test.YtocoblgmjogalaaGreatDoorP0
import Derived.Test.YtocoblgmjogalaaGreatDoorG
import Derived.Test.YtocoblgmjogalaaGreatDoorP2
set_option maxRecDepth 40000
set_option linter.unusedVariables false
set_option linter.unusedSimpArgs false
set_option linter.unusedSectionVars false
namespace Go.Au
open Go Go.RowKit

/-! ### a part of a row -/
section
variable {α : Type} {E : World → List Value → α → Prop} {size lo hi : Nat} {w : World} {a : Option Addr} {c k : Nat} {xs : List α}
theorem rowT (h : RowE E size lo hi w (.slice a xs.length c) xs) (hk : k ≤ xs.length) : RowE E size lo hi w (.slice a k c) (xs.take k) := by
  obtain ⟨a', c', he, hc, hr⟩ := h
  injection he with h1 h2 h3
  subst h1 h3
  have hl : (xs.take k).length = k := by rw [List.length_take]; omega
  refine ⟨a, c, by rw [hl], by omega, fun i x hx => ?_⟩
  have hi := (List.getElem?_eq_some_iff.1 hx).1
  rw [List.getElem?_take, if_pos (by omega)] at hx
  exact hr i x hx
theorem rowD (h : RowE E size lo hi w (.slice a xs.length c) xs) (hk : k ≤ xs.length) : RowE E size lo hi w (.slice (if c = k then a else a.map (·.add (k * size))) (xs.length - k) (c - k)) (xs.drop k) := by
  obtain ⟨a', c', he, hc, hr⟩ := h
  injection he with h1 h2 h3
  subst h1 h3
  refine ⟨_, _, by rw [List.length_drop], by rw [List.length_drop]; omega, fun i x hx => ?_⟩
  have hi := (List.getElem?_eq_some_iff.1 hx).1
  rw [List.length_drop] at hi
  rw [List.getElem?_drop] at hx
  obtain ⟨b, o, rfl, h1, h2, cs, h3, h4, h5⟩ := hr (k + i) x hx
  rw [if_neg (by omega)]
  refine ⟨b, o + k * size, ?_, h1, h2, cs, h3, ?_, h5⟩
  · simp only [Option.map_some, Addr.add]
    split
    · rename_i h0; rw [h0, Nat.add_zero]
    · rfl
  · rw [Nat.add_mul] at h4
    rw [Nat.add_assoc]; exact h4
end

theorem ownsRow_base {w : World} {base size n j : Nat} {el : TypeId} {v : Value} {xs : List Value} (h : w.ownsRow base el size v n xs) (hj : v.ownBlock = some j) : base ≤ j := by
  rcases h.2 with ⟨rfl, _⟩ | ⟨g, cap, cur, rfl, a2, _⟩
  · cases hj
  · have : g = j := by simpa [Value.ownBlock] using hj
    omega

/-! ### room ahead -/
section
variable {P : Program} {Γ : List (Nat × TI)} {w : World} {n : Nat} {t t' el : TypeId} {ti tj ti' : TI}
/-- append(nil, make([]T, n)...) -/
theorem apz (hG : Agree P Γ) {ρ : Operand → Value} {op : Oper} {s x : Operand} {K : Value → World → Prop} (ho : op.op = .call { callee := .builtin .append, args := #[s, x], argTypes := #[t, t'] }) (hs : ρ s = .slice none 0 0) (hx : ρ x = .int .i64 (n : Int))
    (hl : look Γ t = some ti) (hd : ti.desc = .slice el) (hj : look Γ el = some tj) (hl' : look Γ t' = some ti') (hd' : ti'.desc = .int .i64) (hsz : tj.size = 1) (h0 : 0 < n) (h63 : n ≤ maxLen) (hby : n * tj.bytes ≤ 140737488355328)
    (hk : ∀ b c w', w.heap.size = b → n ≤ c → Kp w w' → (∀ base, base ≤ b → w'.ownsRow base el 1 (.slice (some ⟨b, 0, none⟩) 0 c) 0 []) → K (.slice (some ⟨b, 0, none⟩) n c) w') : Raw P ρ op w K := by
  have hok := hG.look hj
  obtain ⟨i, hi, hz, hs1, hbt⟩ := hok.info
  have hu := (hG.look hl).1
  simp only [hd] at hu
  have hu' := (hG.look hl').1
  simp only [hd'] at hu'
  have hrun := Lib.run_append_nil_zeros (P := P) w t t' op.type el i tj.zero .i64 .i64 hu hu' hi hz n h0 (by rw [hs1, hsz]; decide) (by simp only [maxLen] at h63; omega) (by rw [hbt]; omega)
  have hcz : tj.zero.cells.size = 1 := hok.2.2.trans hsz
  refine ⟨_, w.drew.alloc (.cells (Builtin.zeroCells tj.zero.cells n ++ Builtin.zeroCells tj.zero.cells (grownCap w n 0 el - n)) el), ?_, hk w.heap.size (grownCap w n 0 el) _ rfl (grownCap_ge w n 0 el) ?_ ?_⟩
  · unfold execOp
    simp only [ho, resolve, invoke, builtin, Sem.run_bind, Sem.run_pure, Result.andThen_ok, List.map_toArray, List.map_cons, List.map_nil, hs, hx, hrun]
  · refine ⟨rfl, rfl, Nat.le_succ _, rfl, ?_, fun k hk _ => ?_⟩
    · show w.heap.size ≤ (w.heap.push _).size
      simp
    · show (w.heap.push _)[k]? = _
      rw [Array.getElem?_push, if_neg (by omega)]
  · intro base hb
    refine ⟨rfl, .inr ⟨_, _, Builtin.zeroCells tj.zero.cells n ++ Builtin.zeroCells tj.zero.cells (grownCap w n 0 el - n), rfl, hb, ?_, Nat.zero_le _, grownCap_le_maxLen w n 0 el h63, ?_, by simp⟩⟩
    · show (w.heap.push _)[w.heap.size]? = _
      simp
    · rw [Array.size_append, size_zeroCells, size_zeroCells, hcz]
      have := grownCap_ge w n 0 el
      omega
end
end Go.Au

namespace Go.Au
open Go Go.RowKit

/-- an arithmetic answer, in the form one likes -/
theorem arX {z z' : Int} {K : Int → Prop} (hz : z = z') (h : K z') : Ar z K := by subst hz; exact ar h

section
variable {P : Program} {Γ : List (Nat × TI)} {w : World} {b o n c : Nat} {t el et : TypeId} {cs : List Value} {ti tj : TI}
/-- clear, of a part of a block known whole -/
theorem clrS (hG : Agree P Γ) {ρ : Operand → Value} {op : Oper} {x : Operand} {K : Value → World → Prop} (ho : op.op = .call { callee := .builtin .clear, args := #[x], argTypes := #[t] }) (hx : ρ x = .slice (some ⟨b, o, none⟩) n c)
    (hl : look Γ t = some ti) (hd : ti.desc = .slice el) (hj : look Γ el = some tj) (hO : Own w b et cs) (hn : 0 < n) (hle : o + n * tj.size ≤ cs.length) (h1 : (cellsL tj.zero).all (·.oneCell') = true)
    (hk : ∀ w' zs, zs.length = n * tj.size → w'.heap.size = w.heap.size → Chg (fun k => k = b) w w' → Own w' b et (lay cs o zs) → K (.tuple #[]) w') : Raw P ρ op w K := by
  obtain ⟨zs, hzs⟩ : ∃ zs, zs = (Builtin.zeroCells tj.zero.cells n).toList := ⟨_, rfl⟩
  have hcz : tj.zero.cells.size = tj.size := (hG.look hj).2.2
  have hzl : zs.length = n * tj.size := by rw [hzs]; simp [Builtin.zeroCells, hcz]
  have hz1 : ∀ v ∈ zs, v.oneCell' = true := fun v hv => by
    rw [hzs] at hv
    simp only [Builtin.zeroCells, Array.toList_map, List.mem_map] at hv
    obtain ⟨i, hi, rfl⟩ := hv
    have hi' : i < n * tj.zero.cells.size := by simpa using hi
    have hs0 : 0 < tj.zero.cells.size := by
      rcases Nat.eq_zero_or_pos tj.zero.cells.size with h | h
      · rw [h] at hi'; simp at hi'
      · exact h
    have hm := Nat.mod_lt i hs0
    rw [getElem!_pos tj.zero.cells _ hm]
    refine List.all_eq_true.1 h1 _ ?_
    rw [← cellsL_eq']
    exact List.mem_of_getElem? (i := i % tj.zero.cells.size) (by simp [hm])
  have hp := setCells_own zs _ o _ hO
  refine ⟨.tuple #[], w.setCells b o zs, ?_, hk _ zs hzl hp.size hp.chg hp.here⟩
  have hu := (hG.look hl).1
  simp only [hd] at hu
  have hth : ∀ j, j < zs.length → (w.cell? ⟨b, o + 0 + j, none⟩).isSome = true := fun j hj => by
    rw [cell_of_row w b _ _ et _ hO]
    simp
    omega
  have hfr : ∀ j, j < zs.length → w.frozen? ⟨b, o + 0 + j, none⟩ = false := fun j hj => by
    unfold World.frozen?
    rw [show w.heap[(⟨b, o + 0 + j, none⟩ : Addr).block]? = _ from hO]
    simp
  have hst := run_storeCells_cells (P := P) b o zs 0 w hth hfr hz1
  simp only [Nat.add_zero] at hst
  have hzero := run_zero (hG.look hj) w
  have hrun : (Builtin.clear_ #[t] op.type #[.slice (some ⟨b, o, none⟩) n c]).run P w = .ok (.tuple #[]) (w.setCells b o zs) := by
    obtain ⟨m, rfl⟩ : ∃ m, n = m + 1 := ⟨n - 1, by omega⟩
    simp [Builtin.clear_, run_underlying hu, hzero, ← hzs, hst]
  unfold execOp
  simp only [ho, resolve, invoke, builtin, Sem.run_bind, Sem.run_pure, Result.andThen_ok, List.map_toArray, List.map_cons, List.map_nil, hx, hrun]
end

/-! ### elements written over -/
theorem lay_right (a : List Value) : ∀ (vs b : List Value) (o : Nat), lay (a ++ b) (a.length + o) vs = a ++ lay b o vs
  | [], _, _ => rfl
  | v :: r, b, o => by
    show lay ((a ++ b).set (a.length + o) v) (a.length + o + 1) r = a ++ lay (b.set o v) (o + 1) r
    rw [List.set_append_right _ _ (Nat.le_add_right _ _), Nat.add_sub_cancel_left, Nat.add_assoc]
    exact lay_right a r (b.set o v) (o + 1)
theorem lay_left (b : List Value) : ∀ (vs a p : List Value), vs.length = a.length → lay (p ++ (a ++ b)) p.length vs = p ++ (vs ++ b)
  | [], a, p, h => by
    have : a = [] := List.eq_nil_of_length_eq_zero h.symm
    subst this; rfl
  | v :: r, [], p, h => by simp at h
  | v :: r, x :: a, p, h => by
    show lay ((p ++ (x :: a ++ b)).set p.length v) (p.length + 1) r = _
    rw [List.set_append_right _ _ (Nat.le_refl _), Nat.sub_self]
    have h2 := lay_left b r a (p ++ [v]) (by simpa using h)
    simp only [List.length_append, List.length_cons, List.length_nil, List.append_assoc, List.cons_append, List.nil_append] at h2
    exact h2
theorem lay_flat {α : Type} {f : α → List Value} {size : Nat} (hf : ∀ x, (f x).length = size) (rest : List Value) (x : α) : ∀ (ys : List α) (k : Nat), k < ys.length → lay (ys.flatMap f ++ rest) (k * size) (f x) = (ys.set k x).flatMap f ++ rest
  | [], k, h => by simp at h
  | y :: r, 0, h => by
    have := lay_left (r.flatMap f ++ rest) (f x) (f y) [] (by rw [hf, hf])
    rw [Nat.zero_mul]
    simpa [List.append_assoc] using this
  | y :: r, k + 1, h => by
    have h1 := lay_flat hf rest x r k (by simpa using h)
    have h2 := lay_right (f y) (f x) (r.flatMap f ++ rest) (k * size)
    rw [hf, h1] at h2
    rw [Nat.add_mul, Nat.one_mul, Nat.add_comm (k * size)]
    simpa [List.append_assoc] using h2
theorem lay_split (cs : List Value) (o : Nat) (vs : List Value) (h : o + vs.length ≤ cs.length) : lay cs o vs = cs.take o ++ vs ++ cs.drop (o + vs.length) := by
  have h1 := lay_left (cs.drop (o + vs.length)) vs ((cs.drop o).take vs.length) (cs.take o) (by simp; omega)
  have h2 : (cs.drop o).take vs.length ++ cs.drop (o + vs.length) = cs.drop o := by rw [← List.drop_drop]; exact List.take_append_drop _ _
  rw [h2, List.take_append_drop, List.length_take, Nat.min_eq_left (by omega)] at h1
  rw [h1, List.append_assoc]
end Go.Au

namespace Go.Au
open Go Go.RowKit

/-- a row of one's own, taken apart so that a part of it can be written over -/
theorem row_split {α : Type} {f : α → List Value} {size : Nat} (hf : ∀ x, (f x).length = size) {w : World} {base : Nat} {el : TypeId} {v : Value} {ys : List α} (h : w.ownsRow base el size v ys.length (ys.flatMap f)) {k : Nat} (hk : k < ys.length) :
    ∃ g cap rest, v = .slice (some ⟨g, 0, none⟩) ys.length cap ∧ base ≤ g ∧ Own w g el (ys.flatMap f ++ rest) ∧ ∀ (W : World) (zs : List α), zs.length = ys.length → Own W g el (zs.flatMap f ++ rest) → W.ownsRow base el size v ys.length (zs.flatMap f) := by
  rcases id h.2 with ⟨h0, h1⟩ | ⟨g, cap, cur, h0, hbase, hg, hncap, hcm, hcs, htk⟩
  · omega
  have hO : Own w g el (ys.flatMap f ++ cur.toList.drop (ys.length * size)) := by
    rw [← htk, List.take_append_drop]
    exact hg
  refine ⟨g, cap, _, h0, hbase, hO, fun W zs hz hW => ?_⟩
  have hcl : cur.toList.length = cap * size := by simpa using hcs
  have hle : ys.length * size ≤ cap * size := Nat.mul_le_mul_right _ hncap
  refine ⟨by rw [flat_len hf, hz], .inr ⟨g, cap, (zs.flatMap f ++ cur.toList.drop (ys.length * size)).toArray, h0, hbase, hW, hncap, hcm, ?_, ?_⟩⟩
  · simp only [List.size_toArray, List.length_append, flat_len hf, List.length_drop]
    rw [hz, hcl]; omega
  · show (zs.flatMap f ++ _).take (ys.length * size) = _
    rw [List.take_left' (by rw [flat_len hf, hz])]
theorem flat_range' {α : Type} {f : α → List Value} {size : Nat} (hf : ∀ x, (f x).length = size) {w : World} {g : Nat} {el : TypeId} {ys : List α} {rest : List Value} {k : Nat} {x : α} (hx : ys[k]? = some x) (h : Own w g el (ys.flatMap f ++ rest)) : w.rangeAt g (0 + k * size) (f x) := by
  exact flat_range hf hx (Own.all h)
section
variable {P : Program} {Γ : List (Nat × TI)} {base size n : Nat} {v : Value} {xs : List Value} {t el : TypeId} {ti tj : TI}
/-- an append of nothing, in whatever order -/
theorem apn (hG : Agree P Γ) {w0 : World} {e : Env} {Dn : World → Prop} {op : Oper} {s x : Operand} {K : Value → DP → Prop} (ho : op.op = .call { callee := .builtin .append, args := #[s, x], argTypes := #[t, t] }) (hs : ev e s = v) (hx : ev e x = .slice none 0 0)
    (hl : look Γ t = some ti) (hd : ti.desc = .slice el) (hj : look Γ el = some tj) (hown : w0.ownsRow base el size v n xs) (hk : ∀ D, K v D) : Mk Kp w0 Dn (op1 P Γ e op) K :=
  ⟨Unit, ⟨()⟩, fun _ => v, fun _ _ => True, fun _ _ _ _ _ => trivial, fun W h1 h2 => by
    have hrun := run_app0 (c := 0) hG hl hd hj (ownsRow_chg hown h1 fun _ _ => id) op.type
    unfold op1
    rw [ho]
    simp only [isPure]
    refine ⟨v, W, ?_, Chg.refl _ _, (), rfl, trivial⟩
    unfold execOp
    simp only [ho, resolve, invoke, builtin, Sem.run_bind, Sem.run_pure, Result.andThen_ok, List.map_toArray, List.map_cons, List.map_nil, hs, hx, hrun], fun _ D _ => hk D⟩
end
/-- all of a row of one's own, as a range -/
theorem row_range {w : World} {base size n : Nat} {el : TypeId} {v : Value} {xs : List Value} (h : w.ownsRow base el size v n xs) : (v = .slice none 0 0 ∧ n = 0 ∧ xs = []) ∨ ∃ g cap, v = .slice (some ⟨g, 0, none⟩) n cap ∧ w.rangeAt g 0 xs := by
  rcases id h.2 with ⟨h0, h1⟩ | ⟨g, cap, cur, h0, hbase, hg, hncap, hcm, hcs, htk⟩
  · subst h1
    refine .inl ⟨h0, rfl, ?_⟩
    have := h.1
    exact List.eq_nil_of_length_eq_zero (by simpa using this)
  · refine .inr ⟨g, cap, h0, ?_⟩
    have hg : Own w g el cur.toList := hg
    refine Own.at_ (o := 0) hg ?_
    rw [List.drop_zero, h.1]
    exact htk
end Go.Au

namespace Go.Au
open Go Go.RowKit

/-! ### a call that writes, beside an append of what it hands back -/
/-- T: what the call writes (it lays a block, too: by that one sees that it is done); v: the row that is appended to -/
structure CAppR (T : Nat → Prop) (w0 : World) (v : Value) (k : Nat) (news : List Value) (W W' : World) : Prop where
  chg : Chg (fun g => T g ∨ some g = v.ownBlock) W W'
  row : ∀ g, v.ownBlock = some g → g < W.heap.size → W'.heap[g]? = W.heap[g]? ∨ (W.heap[g]? = app1 w0 v ∧ W'.heap[g]? = app2 k news (app1 w0 v))
  once : (∀ g, T g → g < W.heap.size → W'.heap[g]? = W.heap[g]?) ∨ W.heap.size ≤ w0.heap.size
theorem preCAppR (T : Nat → Prop) (w0 : World) (v : Value) (k : Nat) (news : List Value) : Pre (CAppR T w0 v k news) :=
  ⟨fun h => ⟨h.mono fun _ hf => hf.elim, fun g _ hl => .inl (h.block g hl id), .inl fun g _ hl => h.block g hl id⟩, fun h g => ⟨h.chg.trans g.chg, fun x hx hl => by
    rcases h.row x hx hl with a | ⟨a, a'⟩ <;> rcases g.row x hx (Nat.lt_of_lt_of_le hl h.chg.size) with c | ⟨c, c'⟩
    · exact .inl (c.trans a)
    · exact .inr ⟨a ▸ c, c'⟩
    · exact .inr ⟨a, c.trans a'⟩
    · exact .inr ⟨a, c'⟩, by
    have hs := h.chg.size
    rcases h.once with a | a
    · rcases g.once with c | c
      · exact .inl fun x hx hl => (c x hx (Nat.lt_of_lt_of_le hl hs)).trans (a x hx hl)
      · exact .inr (Nat.le_trans hs c)
    · exact .inr a⟩⟩
theorem CAppR.bears {T : Nat → Prop} {w0 : World} {v : Value} {k : Nat} {news : List Value} (hv : ∀ g, v.ownBlock = some g → g < w0.heap.size) (hT : ∀ g, T g → g < w0.heap.size) (hn : ∀ g, T g → v.ownBlock ≠ some g) : BearsApp (CAppR T w0 v k news) w0 v k news :=
  ⟨preCAppR _ _ _ _ _, fun _ _ h => h.row, fun _ _ g o h hg ho => h.chg.heap ho fun hc => hc.elim (fun hc => by have := hT g hc; omega) fun hc => by have := hv g hc.symm; omega, fun _ _ h => h.chg.size,
    fun W W' h0 h => ⟨h.chg.mono fun _ => .inr, h.row, .inl fun g hg hl => h.chg.block g hl fun hc => hn g hg hc.symm⟩⟩

/-! ### an order of one's own, where one operation (the x0-th) breaks U, and what depends on it needs not keep U -/
def oprW (P : Program) (Γ : List (Nat × TI)) (S : World → World → Prop) (U : World → Prop) (bh px xx : Bool) (w0 : World) (Dn : World → Prop) (e : Env) (o : Oper) (K : Value → Option DP → Prop) : Prop := match isPure o.op with
  | true => opP P Γ e o False fun v => K v none
  | false => match bh with
    | true => (∀ W, S w0 W → Dn W → ¬ U W) ∧ Mk S w0 Dn (op1 P Γ e o) fun v D => K v (some D)
    | false => MkU S U px xx w0 Dn (op1 P Γ e o) fun v D => K v (some D)
noncomputable def VCw (P : Program) (Γ : List (Nat × TI)) (S : World → World → Prop) (U : World → Prop) (x0 : Nat) (w0 : World) (ops : List Oper) (ms : List Nat) (Q : Env → List (Nat × DP) → Prop) (l : List Nat) : List (Nat × DP) → Env → Prop :=
  List.rec (motive := fun _ => List (Nat × DP) → Env → Prop) (fun Ds e => Q e Ds)
    (fun i _ ih Ds e => match nthO ops i with
      | some o => grd ops e o (oprW P Γ S U (((ms[i]?).getD 0).testBit x0) (pxOf ms x0 i) (Nat.beq i x0) w0 (DnF ((ms[i]?).getD 0) Ds) e o fun v D => ih (addD Ds i D) (putE e o.dst v)) (ih Ds (putE e o.dst undef))
      | none => False) l
section
variable {P : Program} {Γ : List (Nat × TI)} {n : Nat} {ds : List Deferred} {rd : Option Nat}
theorem VCw_to (hG : Agree P Γ) {S : World → World → Prop} {U : World → Prop} {x0 : Nat} {w0 : World} {ops : List Oper} {ms : List Nat} {Q : Env → List (Nat × DP) → Prop} : ∀ (l : List Nat) (Ds : List (Nat × DP)) (e : Env), VCw P Γ S U x0 w0 ops ms Q l Ds e → VCs P Γ S U x0 w0 ops ms Q ((nodes ops l).map fun p => (p.1, p.2, none)) Ds e
  | [], Ds, e, h => h
  | i :: r, Ds, e, h => by
    change (match nthO ops i with
      | some o => grd ops e o (oprW P Γ S U (((ms[i]?).getD 0).testBit x0) (pxOf ms x0 i) (Nat.beq i x0) w0 (DnF ((ms[i]?).getD 0) Ds) e o fun v D => VCw P Γ S U x0 w0 ops ms Q r (addD Ds i D) (putE e o.dst v)) (VCw P Γ S U x0 w0 ops ms Q r Ds (putE e o.dst undef))
      | none => False) at h
    simp only [nodes, List.map_cons, VCs]
    split at h
    · rename_i o ho
      rw [nthO_eq] at ho
      rw [ho, Option.getD_some]
      refine grd_mono h ?_ (fun h => VCw_to hG r _ _ h)
      intro h
      unfold oprW at h
      split at h
      · rename_i hi
        rcases opP_spec (P := P) hG h with h | ⟨v, hk, hp⟩
        · exact h.elim
        · exact .inl ⟨hi, v, hp, VCw_to hG r _ _ hk⟩
      · rename_i hi
        split at h
        · obtain ⟨hU, τ, hn, f, F, h1, h2, h3⟩ := h
          exact .inr ⟨hi, τ, hn, f, F, h1, fun W a b _ => (op1_does hG (h2 W a b)).mono fun v W' ⟨s, d⟩ => ⟨⟨s, fun _ hu => absurd hu (hU W a b)⟩, d⟩, fun y D hD => VCw_to hG r _ _ (h3 y D hD)⟩
        · obtain ⟨τ, hn, f, F, h1, h2, h3⟩ := h
          exact .inr ⟨hi, τ, hn, f, F, h1, fun W a b c => op1_does hG (h2 W a b c), fun y D hD => VCw_to hG r _ _ (h3 y D hD)⟩
    · exact h.elim
/-- A REGION IN WHATEVER ORDER, in which one operation (the x0-th) breaks U, and others stand behind it. -/
theorem drawnW (hG : Agree P Γ) (hm : P.follows .mixedOrders = true) {id : Nat} {ops : Array Oper} (m : Nat) (ord : List Nat) (hreg : regOk ops.toList m ord = true) (S : World → World → Prop) (hS : Pre S) (U : World → Prop) (x0 : Nat) {K : Exit → Env → World → Prop} {e : Env} {w : World} (hU : U w.drew)
    (h : VCw P Γ S U x0 w ops.toList (masks ops.toList) (fun E Ds => ∀ W, S w W → (∀ j, getDs Ds j W) → VCl P Γ ops.toList (K .normal) (ops.toList.drop m) E W) ord [] e) :
    Piece P n ds rd (.region id ops true) K e w := drawnV hG hm m ord hreg S hS U x0 hU (VCw_to hG _ _ _ h)
/-- the call that breaks U -/
theorem callu {S : World → World → Prop} {U : World → Prop} {e : Env} {w0 : World} {Dn : World → Prop} {op : Oper} {K : Value → DP → Prop} {c : Go.Call} {τ : Type} [hne : Nonempty τ] (v : Value) (F : τ → World → Prop) (ho : op.op = .call c) {fo : Operand} {g : FuncId} {first cap : Array Value} (hc : c.callee = .value fo) (hf : ev e fo = .func (.func g) first cap)
    (hst : ∀ y W W', F y W → S W W' → F y W') (hcall : callable P g = true) (h : ∀ W, S w0 W → Dn W → U W → Calls P g (first.toList ++ c.args.toList.map (ev e) ++ cap.toList).toArray W (Ret fun r W' => r = v ∧ S W W' ∧ ∃ y, F y W'))
    (hk : ∀ y D, (∀ W, D W → F y W) → K v D) : MkU S U true true w0 Dn (op1 P Γ e op) K :=
  ⟨τ, hne, fun _ => v, F, hst, fun W h1 h2 h3 => by
    unfold op1
    rw [ho]
    simp only [isPure, hc, hf]
    exact ⟨hcall, Calls.mono (h W h1 h2 (h3 rfl)) fun en w' hr => by
      cases en with
      | returned r =>
        obtain ⟨rfl, hs, y, hy⟩ := hr
        exact ⟨⟨hs, fun hh => by cases hh⟩, y, rfl, hy⟩
      | _ => exact hr.elim⟩, fun y D hD => hk y D hD⟩
end
section
variable {P : Program} {Γ : List (Nat × TI)} {w : World} {base size n m c b o : Nat} {v : Value} {xs news : List Value} {t el : TypeId} {ti tj : TI}
/-- an append to a row of one's own, and where the new row lies -/
theorem apL (hG : Agree P Γ) {ρ : Operand → Value} {op : Oper} {s x : Operand} {K : Value → World → Prop} (ho : op.op = .call { callee := .builtin .append, args := #[s, x], argTypes := #[t, t] }) (hs : ρ s = v) (hx : ρ x = .slice (some ⟨b, o, none⟩) m c)
    (hl : look Γ t = some ti) (hd : ti.desc = .slice el) (hj : look Γ el = some tj) (hsz : tj.size = size) (hpos : 0 < size) (hown : w.ownsRow base el size v n xs)
    (hn : news.length = m * size) (hr : w.rangeAt b o news) (h1 : news.all (·.oneCell') = true) (h63 : n + m ≤ maxLen) (hby : (n + m) * tj.bytes ≤ 140737488355328) (hb : base ≤ w.heap.size)
    (hk : ∀ v' w', w'.ownsRow base el size v' (n + m) (xs ++ news) → Chg (fun k => some k = v.ownBlock) w w' → (∀ g, v'.ownBlock = some g → v.ownBlock = some g ∨ w.heap.size ≤ g) → K v' w') : Raw P ρ op w K := by
  obtain ⟨v', w', hrun, h2, h3, h4⟩ := appR_run (c := c) (w := w) (w0 := w) hG hl hd hj hsz hpos hown hn (Nat.le_refl _) (fun g _ _ => .inl rfl) hr h1 h63 hby hb op.type
  refine ⟨v', w', ?_, hk v' w' h3 h2.chg fun g hg => (h4 g hg).imp (·.1) id⟩
  unfold execOp
  simp only [ho, resolve, invoke, builtin, Sem.run_bind, Sem.run_pure, Result.andThen_ok, List.map_toArray, List.map_cons, List.map_nil, hs, hx, hrun]
end
end Go.Au

namespace Go.Au
open Go Go.RowKit

theorem range_cell {w : World} {b o : Nat} {cs : List Value} (h : w.rangeAt b o cs) {j : Nat} {v : Value} (hv : cs[j]? = some v) : w.rangeAt b (o + j) [v] := fun i u hu => by
  have hi : i = 0 := by
    have := (List.getElem?_eq_some_iff.1 hu).1
    simpa using this
  subst hi
  have hu : v = u := by simpa using hu
  subst hu
  rw [Nat.add_zero]
  exact h j v hv
section
variable {P : Program} {Γ : List (Nat × TI)} {w : World} {base size n m c b o : Nat} {v : Value} {xs news : List Value} {t el : TypeId} {ti tj : TI}
/-- an append to a row of one's own: what stood there stays where it stood -/
theorem apP (hG : Agree P Γ) {ρ : Operand → Value} {op : Oper} {s x : Operand} {K : Value → World → Prop} (ho : op.op = .call { callee := .builtin .append, args := #[s, x], argTypes := #[t, t] }) (hs : ρ s = v) (hx : ρ x = .slice (some ⟨b, o, none⟩) m c)
    (hl : look Γ t = some ti) (hd : ti.desc = .slice el) (hj : look Γ el = some tj) (hsz : tj.size = size) (hpos : 0 < size) (hown : w.ownsRow base el size v n xs)
    (hn : news.length = m * size) (hr : w.rangeAt b o news) (h1 : news.all (·.oneCell') = true) (h63 : n + m ≤ maxLen) (hby : (n + m) * tj.bytes ≤ 140737488355328) (hb : base ≤ w.heap.size)
    (hk : ∀ v' w', w'.ownsRow base el size v' (n + m) (xs ++ news) → Chg (fun k => some k = v.ownBlock) w w' → (∀ g, v'.ownBlock = some g → v.ownBlock = some g ∨ w.heap.size ≤ g) → (∀ g, v.ownBlock = some g → w'.rangeAt g 0 xs ∧ ∃ cur, w'.heap[g]? = some (.cells cur el (0, 0))) → K v' w') : Raw P ρ op w K := by
  obtain ⟨v', w', hrun, h2, h3, h4⟩ := appR_run (c := c) (w := w) (w0 := w) hG hl hd hj hsz hpos hown hn (Nat.le_refl _) (fun g _ _ => .inl rfl) hr h1 h63 hby hb op.type
  refine ⟨v', w', ?_, hk v' w' h3 h2.chg (fun g hg => (h4 g hg).imp (·.1) id) fun g hg => ?_⟩
  · unfold execOp
    simp only [ho, resolve, invoke, builtin, Sem.run_bind, Sem.run_pure, Result.andThen_ok, List.map_toArray, List.map_cons, List.map_nil, hs, hx, hrun]
  · rcases row_range hown with ⟨hv, -, -⟩ | ⟨g', cap', hv, hrg⟩
    · rw [hv] at hg; cases hg
    · have hgg : g' = g := by rw [hv] at hg; simpa [Value.ownBlock] using hg
      subst hgg
      rcases h2.row g' hg (hown.lt g' hg).2 with h | ⟨-, h⟩
      · rcases id hown.2 with ⟨h0, -⟩ | ⟨g2, cap, cur, h0, hbase, hg2, -⟩
        · rw [h0] at hg; cases hg
        · have hg3 : g2 = g' := by rw [h0] at hg; simpa [Value.ownBlock] using hg
          subst hg3
          exact ⟨fun j u hu => (World.cell?_of_block (a := ⟨g2, 0 + j, none⟩) h).trans (hrg j u hu), cur, h.trans hg2⟩
      · rcases id hown.2 with ⟨h0, -⟩ | ⟨g2, cap, cur, h0, hbase, hg2, hncap, hcm, hcs, htk⟩
        · rw [h0] at hg; cases hg
        · have hg3 : g2 = g' := by rw [h0] at hg; simpa [Value.ownBlock] using hg
          subst hg3
          have happ : app1 w v = some (.cells cur el (0, 0)) := by unfold app1; rw [hg]; exact hg2
          rw [happ] at h
          simp only [app2] at h
          have hxl : xs.length = n * size := hown.1
          by_cases hfit : n * size + news.length ≤ cur.size
          · rw [if_pos hfit] at h
            have hO : Own w' g2 el (lay2 (n * size) news cur.toList) := h
            refine ⟨Own.at_ (o := 0) hO ?_, _, h⟩
            rw [List.drop_zero, hxl]
            unfold lay2
            rw [htk, List.append_assoc, List.take_left' hxl]
          · rw [if_neg hfit] at h
            have hO : Own w' g2 el cur.toList := h
            refine ⟨Own.at_ (o := 0) hO ?_, _, h⟩
            rw [List.drop_zero, hxl]
            exact htk
/-- bytes turned into a text -/
theorem cvBS (hG : Agree P Γ) {ρ : Operand → Value} {op : Oper} {src dst : TypeId} {x : Operand} {K : Value → World → Prop} {ns : List Int} {tk : TI} (ho : op.op = .convert src dst x) (hx : ρ x = .slice (some ⟨b, o, none⟩) n c) (hl : look Γ src = some ti) (hd : ti.desc = .slice el) (hj : look Γ el = some tj) (hjd : tj.desc = .int .u8)
    (hdst : look Γ dst = some tk) (hkd : tk.desc = .string) (hr : w.rangeAt b o (ns.map (Value.int .u8))) (hn : n = ns.length) (hk : K (.string (ns.foldl (fun r n => r.push (UInt8.ofNat n.toNat)) ByteArray.empty)) w) : Raw P ρ op w K := by
  refine ⟨_, w, ?_, hk⟩
  have h1 := (hG.look hl).1
  have h2 := (hG.look hj).1
  have h3 := (hG.look hdst).1
  rw [hd] at h1
  rw [hjd] at h2
  rw [hkd] at h3
  subst hn
  have hload := run_loadCells_list (P := P) (w := w) ⟨b, o, none⟩ (ns.map (Value.int .u8)) fun j v hv => by
    have := hr j v hv
    rw [Addr.add_mid]
    exact this
  rw [List.length_map] at hload
  unfold execOp
  rw [ho]
  simp only [Sem.run_bind, Sem.run_pure, Result.andThen_ok, hx, run_convert_bytes_string w src dst el (some ⟨b, o, none⟩) ns.length c h1 h2 h3, run_bytesToString w ⟨b, o, none⟩ ns.length c ns hload, Result.andThen]
end
theorem ownsRow_cells2 {w : World} {base size n g : Nat} {el : TypeId} {v : Value} {xs : List Value} (h : w.ownsRow base el size v n xs) (hg : v.ownBlock = some g) : ∃ cur, w.heap[g]? = some (.cells cur el (0, 0)) := by
  rcases h.2 with ⟨h0, -⟩ | ⟨g', cap, cur, h0, -, h3, -⟩
  · rw [h0] at hg; cases hg
  · rw [h0] at hg
    have : g' = g := by simpa [Value.ownBlock] using hg
    subst this
    exact ⟨cur, h3⟩
theorem rows_sep2 {w : World} {b1 b2 s1 s2 n1 n2 : Nat} {t1 t2 : TypeId} {v u : Value} {xs ys : List Value} (h : w.ownsRow b1 t1 s1 v n1 xs) (h' : w.ownsRow b2 t2 s2 u n2 ys) (ht : t1 ≠ t2) : ∀ g, v.ownBlock = some g → u.ownBlock ≠ some g := fun g hg hg' => by
  obtain ⟨c1, h1⟩ := ownsRow_cells2 h hg
  obtain ⟨c2, h2⟩ := ownsRow_cells2 h' hg'
  rw [h1] at h2
  injection h2 with h2
  injection h2 with _ h2
  exact ht h2
theorem rangeAt_eq {w : World} {b o o' : Nat} {cs : List Value} (h : w.rangeAt b o cs) (he : o = o') : w.rangeAt b o' cs := he ▸ h
/-! ### rows that are read, each in a block of its own -/
section
variable {α : Type} {f : α → List Value} {size : Nat} {T : TypeId} {w w' : World}
def Rd (f : α → List Value) (size : Nat) (T : TypeId) (own : Nat → Prop) (w : World) (v : Value) (xs : List α) : Prop := ∃ a c, v = .slice a xs.length c ∧ ∀ (k : Nat) (x : α), xs[k]? = some x → ∃ g, a = some ⟨g, 0, none⟩ ∧ own g ∧ (∃ cur, w.heap[g]? = some (.cells cur T (0, 0))) ∧ w.rangeAt g (0 + k * size) (f x)
theorem Rd.chg {own S : Nat → Prop} {v : Value} {xs : List α} (h : Rd f size T own w v xs) (hc : Chg S w w') (hs : ∀ g, own g → (∃ cur, w.heap[g]? = some (.cells cur T (0, 0))) → ¬ S g) : Rd f size T own w' v xs := by
  obtain ⟨a, c, hv, hh⟩ := h
  refine ⟨a, c, hv, fun k x hx => ?_⟩
  obtain ⟨g, h1, h2, h3, h4⟩ := hh k x hx
  have hn := hs g h2 h3
  obtain ⟨cur, h3⟩ := h3
  exact ⟨g, h1, h2, ⟨cur, hc.heap h3 hn⟩, hc.range h4 hn⟩
theorem Rd.of (hf : ∀ x, (f x).length = size) {own : Nat → Prop} {base : Nat} {v : Value} {xs : List α} (h : w.ownsRow base T size v xs.length (xs.flatMap f)) (ho : ∀ g, v.ownBlock = some g → own g) : Rd f size T own w v xs := by
  rcases row_range h with ⟨hv, hn, -⟩ | ⟨g, cap, hv, hr⟩
  · have : xs = [] := List.eq_nil_of_length_eq_zero hn
    subst this
    exact ⟨none, 0, hv, fun k x hx => by simp at hx⟩
  · have hb : v.ownBlock = some g := by rw [hv]; rfl
    refine ⟨_, cap, hv, fun k x hx => ⟨g, rfl, ho g hb, ?_, flat_range (cs := []) hf hx (by rw [List.append_nil]; exact hr)⟩⟩
    exact ownsRow_cells2 h hb
end
end Go.Au

namespace Go.Au
open Go

/-! ### formulas, plain -/
inductive Fm where
  | mk (op : Nat) (name : ByteArray) (kids : List Fm)
namespace Fm
def op : Fm → Nat | .mk o _ _ => o
def name : Fm → ByteArray | .mk _ n _ => n
def kids : Fm → List Fm | .mk _ _ k => k
theorem eta : ∀ f : Fm, f = .mk f.op f.name f.kids
  | .mk _ _ _ => rfl
theorem ind {P : Fm → Prop} (h : ∀ o n k, (∀ x ∈ k, P x) → P (.mk o n k)) (f : Fm) : P f :=
  Fm.rec (motive_1 := P) (motive_2 := fun l => ∀ x ∈ l, P x) (fun o n k hk => h o n k hk) (fun x hx => by cases hx)
    (fun a l ha hl x hx => by cases hx with | head => exact ha | tail _ hx => exact hl x hx) f
mutual
def size : Fm → Nat | .mk _ _ k => sizes k + 1
def sizes : List Fm → Nat | [] => 0 | f :: r => size f + sizes r
end
mutual
def depth : Fm → Nat | .mk _ _ k => depths k + 1
def depths : List Fm → Nat | [] => 0 | f :: r => max (depth f) (depths r)
end
mutual
/-- a tree and all that stands in it, from the top, left to right -/
def all : Fm → List Fm | .mk o n k => .mk o n k :: alls k
def alls : List Fm → List Fm | [] => [] | f :: r => all f ++ alls r
end
theorem size_pos : ∀ f : Fm, 0 < f.size
  | .mk _ _ _ => by simp [size]
theorem sizes_append : ∀ a b : List Fm, sizes (a ++ b) = sizes a + sizes b
  | [], b => by simp [sizes]
  | f :: a, b => by simp [sizes, sizes_append a b]; omega
theorem depths_append : ∀ a b : List Fm, depths (a ++ b) = max (depths a) (depths b)
  | [], b => by simp [depths]
  | f :: a, b => by simp only [List.cons_append, depths, depths_append a b]; omega
theorem alls_append : ∀ a b : List Fm, alls (a ++ b) = alls a ++ alls b
  | [], b => by simp [alls]
  | f :: a, b => by simp [alls, alls_append a b]
theorem sizes_mem : ∀ {l : List Fm} {x : Fm}, x ∈ l → x.size ≤ sizes l
  | f :: r, x, h => by
    simp only [sizes]
    cases h with
    | head => omega
    | tail _ h => have := sizes_mem h; omega
theorem depths_mem : ∀ {l : List Fm} {x : Fm}, x ∈ l → x.depth ≤ depths l
  | f :: r, x, h => by
    simp only [depths]
    cases h with
    | head => omega
    | tail _ h => have := depths_mem h; omega
theorem size_kid {f x : Fm} (h : x ∈ f.kids) : x.size < f.size := by
  obtain ⟨o, n, k⟩ := f
  have := sizes_mem h
  simp only [size, kids] at *
  omega
theorem depth_kid {f x : Fm} (h : x ∈ f.kids) : x.depth < f.depth := by
  obtain ⟨o, n, k⟩ := f
  have := depths_mem h
  simp only [depth, kids] at *
  omega
theorem depth_pos : ∀ f : Fm, 0 < f.depth
  | .mk _ _ _ => by simp [depth]
theorem depth_le_size : ∀ f : Fm, f.depth ≤ f.size := ind fun o n k ih => by
  simp only [depth, size]
  have : ∀ l : List Fm, (∀ x ∈ l, x.depth ≤ x.size) → depths l ≤ sizes l := by
    intro l
    induction l with
    | nil => intro _; simp [depths, sizes]
    | cons a r h =>
      intro hl
      have h1 := hl a (by simp)
      have h2 := h fun x hx => hl x (by simp [hx])
      simp only [depths, sizes]
      omega
  have := this k ih
  omega
theorem mem_alls : ∀ {l : List Fm} {x : Fm}, x ∈ alls l ↔ ∃ f ∈ l, x ∈ all f
  | [], x => by simp [alls]
  | f :: r, x => by simp [alls, mem_alls (l := r)]
theorem mem_all {f x : Fm} : x ∈ f.all ↔ x = f ∨ ∃ k ∈ f.kids, x ∈ k.all := by
  obtain ⟨o, n, k⟩ := f
  simp [all, mem_alls, kids]
theorem self_all (f : Fm) : f ∈ f.all := mem_all.2 (.inl rfl)
theorem kid_all {f k : Fm} (h : k ∈ f.kids) : k ∈ f.all := mem_all.2 (.inr ⟨k, h, self_all k⟩)
theorem all_trans : ∀ {f : Fm} {x y : Fm}, x ∈ f.all → y ∈ x.all → y ∈ f.all := by
  intro f
  refine ind (P := fun f => ∀ {x y : Fm}, x ∈ f.all → y ∈ x.all → y ∈ f.all) ?_ f
  intro o n k ih x y hx hy
  rcases mem_all.1 hx with rfl | ⟨c, hc, hxc⟩
  · exact hy
  · exact mem_all.2 (.inr ⟨c, hc, ih c hc hxc hy⟩)
theorem all_size {f x : Fm} (h : x ∈ f.all) : x = f ∨ x.size < f.size := by
  revert x
  refine ind (P := fun f => ∀ {x : Fm}, x ∈ f.all → x = f ∨ x.size < f.size) ?_ f
  intro o n k ih x hx
  rcases mem_all.1 hx with rfl | ⟨c, hc, hxc⟩
  · exact .inl rfl
  · have h1 := size_kid (f := .mk o n k) hc
    rcases ih c hc hxc with rfl | h2
    · exact .inr h1
    · exact .inr (by omega)
theorem all_len : ∀ f : Fm, f.all.length = f.size := ind fun o n k ih => by
  simp only [all, size, List.length_cons]
  have : ∀ l : List Fm, (∀ x ∈ l, x.all.length = x.size) → (alls l).length = sizes l := by
    intro l
    induction l with
    | nil => intro _; simp [alls, sizes]
    | cons a r h => intro hl; simp [alls, sizes, hl a (by simp), h fun x hx => hl x (by simp [hx])]
  rw [this k ih]

/-! ### their order -/
def sgn3 (a b : Nat) : Int := if a < b then -1 else if b < a then 1 else 0
def orI (a b : Int) : Int := if a = 0 then b else a
def cmpL : List Nat → List Nat → Int
  | [], [] => 0
  | [], _ :: _ => -1
  | _ :: _, [] => 1
  | a :: r, b :: s => orI (sgn3 a b) (cmpL r s)
def bytesI (s : ByteArray) : List Nat := s.data.toList.map UInt8.toNat
mutual
def cmp : Fm → Fm → Int
  | .mk o n k, .mk o' n' k' => orI (sgn3 o o') (orI (cmpL (bytesI n) (bytesI n')) (orI (sgn3 k.length k'.length) (cmps k k')))
def cmps : List Fm → List Fm → Int
  | [], [] => 0
  | [], _ :: _ => -1
  | _ :: _, [] => 1
  | a :: r, b :: s => orI (cmp a b) (cmps r s)
end
theorem orI_assoc (a b c : Int) : orI (orI a b) c = orI a (orI b c) := by unfold orI; split <;> simp_all
theorem orI_zero (a : Int) : orI a 0 = a := by unfold orI; split <;> simp_all
theorem zero_orI (a : Int) : orI 0 a = a := rfl
/-- all of a tree as one row of numbers: no row goes on where another one ends -/
def nameC (n : ByteArray) : List Nat := (bytesI n).map (· + 1) ++ [0]
mutual
def code : Fm → List Nat | .mk o n k => o :: (nameC n ++ (k.length :: codes k))
def codes : List Fm → List Nat | [] => [] | f :: r => code f ++ codes r
end
theorem cmpL_refl : ∀ a : List Nat, cmpL a a = 0
  | [] => rfl
  | a :: r => by simp [cmpL, sgn3, orI, cmpL_refl r]
theorem cmpL_name : ∀ (a b r s : List Nat), cmpL ((a.map (· + 1) ++ [0]) ++ r) ((b.map (· + 1) ++ [0]) ++ s) = orI (cmpL a b) (cmpL r s)
  | [], [], r, s => by simp [cmpL, sgn3, orI]
  | [], b :: t, r, s => by simp [cmpL, sgn3, orI]
  | a :: t, [], r, s => by simp [cmpL, sgn3, orI]
  | a :: t, b :: u, r, s => by
    have h := cmpL_name t u r s
    simp only [List.map_cons, List.cons_append, cmpL] at h ⊢
    rw [h, orI_assoc]
    congr 1
    simp [sgn3]
theorem cmp_code : ∀ (f g : Fm) (r s : List Nat), cmpL (code f ++ r) (code g ++ s) = orI (cmp f g) (cmpL r s) := by
  intro f
  refine ind (P := fun f => ∀ (g : Fm) (r s : List Nat), cmpL (code f ++ r) (code g ++ s) = orI (cmp f g) (cmpL r s)) ?_ f
  intro o n k ih g r s
  obtain ⟨o', n', k'⟩ := g
  have hk : ∀ (k k' : List Fm), (∀ x ∈ k, ∀ (g : Fm) (r s : List Nat), cmpL (code x ++ r) (code g ++ s) = orI (cmp x g) (cmpL r s)) → k.length = k'.length → ∀ r s, cmpL (codes k ++ r) (codes k' ++ s) = orI (cmps k k') (cmpL r s) := by
    intro k
    induction k with
    | nil => intro k' _ hl r s; cases k' with | nil => simp [codes, cmps, orI] | cons => simp at hl
    | cons a t h =>
      intro k' hx hl r s
      cases k' with
      | nil => simp at hl
      | cons b u =>
        simp only [codes, cmps, List.append_assoc]
        rw [hx a (by simp), h u (fun x hx' => hx x (by simp [hx'])) (by simpa using hl), orI_assoc]
  have hc : ∀ (o : Nat) (n : ByteArray) (k : List Fm) (r : List Nat), code (.mk o n k) ++ r = o :: (((bytesI n).map (· + 1) ++ [0]) ++ (k.length :: (codes k ++ r))) := fun o n k r => by simp [code, nameC]
  rw [hc, hc]
  simp only [cmp, cmpL]
  rw [cmpL_name]
  simp only [cmpL]
  rw [orI_assoc, orI_assoc]
  by_cases hl : k.length = k'.length
  · rw [hk k k' ih hl, orI_assoc]
  · have : sgn3 k.length k'.length ≠ 0 := by
      unfold sgn3
      repeat' split
      all_goals omega
    congr 2
    unfold orI
    rw [if_neg this, if_neg (by rw [if_neg this]; exact this), if_neg this]
theorem cmp_codes (f g : Fm) : cmp f g = cmpL (code f) (code g) := by
  have := cmp_code f g [] []
  rw [List.append_nil, List.append_nil] at this
  rw [this]
  exact (orI_zero _).symm
theorem sgn3_neg (a b : Nat) : sgn3 b a = - sgn3 a b := by
  unfold sgn3
  repeat' split
  all_goals omega
theorem orI_neg (a b : Int) : orI (-a) (-b) = - orI a b := by
  unfold orI
  repeat' split
  all_goals omega
theorem cmpL_neg : ∀ a b : List Nat, cmpL b a = - cmpL a b
  | [], [] => rfl
  | [], _ :: _ => rfl
  | _ :: _, [] => rfl
  | a :: r, b :: s => by simp only [cmpL]; rw [cmpL_neg r s, sgn3_neg a b, orI_neg]
theorem cmpL_range : ∀ a b : List Nat, cmpL a b = -1 ∨ cmpL a b = 0 ∨ cmpL a b = 1
  | [], [] => by simp [cmpL]
  | [], _ :: _ => by simp [cmpL]
  | _ :: _, [] => by simp [cmpL]
  | a :: r, b :: s => by
    simp only [cmpL, orI]
    split
    · exact cmpL_range r s
    · unfold sgn3
      repeat' split
      all_goals simp
theorem cmpL_zero : ∀ {a b : List Nat}, cmpL a b = 0 → a = b
  | [], [], _ => rfl
  | [], _ :: _, h => by simp [cmpL] at h
  | _ :: _, [], h => by simp [cmpL] at h
  | a :: r, b :: s, h => by
    simp only [cmpL, orI] at h
    split at h
    · rename_i h1
      have hab : a = b := by
        unfold sgn3 at h1
        split at h1
        · cases h1
        · split at h1
          · cases h1
          · omega
      rw [hab, cmpL_zero h]
    · contradiction
theorem orI_le {a b : Int} : orI a b ≤ 0 ↔ a < 0 ∨ a = 0 ∧ b ≤ 0 := by
  unfold orI
  split <;> omega
theorem sgn3_lt {a b : Nat} : sgn3 a b < 0 ↔ a < b := by
  unfold sgn3
  repeat' split
  all_goals omega
theorem sgn3_eq {a b : Nat} : sgn3 a b = 0 ↔ a = b := by
  unfold sgn3
  repeat' split
  all_goals omega
theorem cmpL_trans : ∀ {a b c : List Nat}, cmpL a b ≤ 0 → cmpL b c ≤ 0 → cmpL a c ≤ 0
  | [], _, [], _, _ => by simp [cmpL]
  | [], _, _ :: _, _, _ => by simp [cmpL]
  | _ :: _, [], _, h, _ => by simp [cmpL] at h
  | _ :: _, _ :: _, [], _, h => by simp [cmpL] at h
  | a :: r, b :: s, c :: t, h1, h2 => by
    have ih := cmpL_trans (a := r) (b := s) (c := t)
    simp only [cmpL, orI_le, sgn3_lt, sgn3_eq] at h1 h2 ⊢
    rcases h1 with h1 | ⟨h1, h1'⟩ <;> rcases h2 with h2 | ⟨h2, h2'⟩
    · exact .inl (by omega)
    · exact .inl (by omega)
    · exact .inl (by omega)
    · exact .inr ⟨by omega, ih h1' h2'⟩
theorem bytesI_inj {s t : ByteArray} (h : bytesI s = bytesI t) : s = t := by
  obtain ⟨⟨a⟩⟩ := s
  obtain ⟨⟨b⟩⟩ := t
  have : a = b := by
    simp only [bytesI] at h
    exact (List.map_inj_right fun x y h => UInt8.toNat_inj.1 h).1 h
  rw [this]
theorem cmp_self (f : Fm) : cmp f f = 0 := by rw [cmp_codes]; exact cmpL_refl _
theorem cmp_neg (f g : Fm) : cmp g f = - cmp f g := by rw [cmp_codes, cmp_codes]; exact cmpL_neg _ _
theorem cmp_range (f g : Fm) : cmp f g = -1 ∨ cmp f g = 0 ∨ cmp f g = 1 := by rw [cmp_codes]; exact cmpL_range _ _
theorem cmp_trans {f g h : Fm} (h1 : cmp f g ≤ 0) (h2 : cmp g h ≤ 0) : cmp f h ≤ 0 := by
  rw [cmp_codes] at *; exact cmpL_trans h1 h2
theorem orI_eq_zero {a b : Int} (h : orI a b = 0) : a = 0 ∧ b = 0 := by
  unfold orI at h
  split at h
  · exact ⟨by assumption, h⟩
  · contradiction
theorem sgn3_zero {a b : Nat} (h : sgn3 a b = 0) : a = b := by
  unfold sgn3 at h
  split at h
  · cases h
  · split at h
    · cases h
    · omega
theorem cmp_zero : ∀ {f g : Fm}, cmp f g = 0 → f = g := by
  intro f
  refine ind (P := fun f => ∀ {g : Fm}, cmp f g = 0 → f = g) ?_ f
  intro o n k ih g h
  obtain ⟨o', n', k'⟩ := g
  simp only [cmp] at h
  obtain ⟨h1, h⟩ := orI_eq_zero h
  obtain ⟨h2, h⟩ := orI_eq_zero h
  obtain ⟨h3, h⟩ := orI_eq_zero h
  have hk : ∀ (k k' : List Fm), (∀ x ∈ k, ∀ {g : Fm}, cmp x g = 0 → x = g) → cmps k k' = 0 → k = k' := by
    intro k
    induction k with
    | nil => intro k' _ hl; cases k' with | nil => rfl | cons => simp [cmps] at hl
    | cons a t h =>
      intro k' hx hl
      cases k' with
      | nil => simp [cmps] at hl
      | cons b u =>
        simp only [cmps] at hl
        obtain ⟨hl1, hl2⟩ := orI_eq_zero hl
        rw [hx a (by simp) hl1, h u (fun x hx' => hx x (by simp [hx'])) hl2]
  rw [sgn3_zero h1, bytesI_inj (cmpL_zero h2), hk k k' ih h]
theorem cmp_zero_iff {f g : Fm} : cmp f g = 0 ↔ f = g := ⟨cmp_zero, fun h => h ▸ cmp_self f⟩
/-- by size, then by cmp -/
def ord (f g : Fm) : Int := orI (sgn3 f.size g.size) (cmp f g)
theorem ord_neg (f g : Fm) : ord g f = - ord f g := by unfold ord; rw [sgn3_neg, cmp_neg f g, orI_neg]
theorem sgn3_range (a b : Nat) : sgn3 a b = -1 ∨ sgn3 a b = 0 ∨ sgn3 a b = 1 := by
  unfold sgn3
  repeat' split
  all_goals simp
theorem ord_range (f g : Fm) : ord f g = -1 ∨ ord f g = 0 ∨ ord f g = 1 := by
  unfold ord orI
  split
  · exact cmp_range f g
  · exact sgn3_range _ _
theorem ord_zero {f g : Fm} (h : ord f g = 0) : f = g := cmp_zero (orI_eq_zero h).2
theorem ord_self (f : Fm) : ord f f = 0 := by unfold ord; rw [cmp_self]; simp [sgn3, orI]
theorem ord_zero_iff {f g : Fm} : ord f g = 0 ↔ f = g := ⟨ord_zero, fun h => h ▸ ord_self f⟩
theorem ord_size {f g : Fm} (h : ord f g ≤ 0) : f.size ≤ g.size := by
  unfold ord orI at h
  split at h
  · rename_i h0; exact Nat.le_of_eq (sgn3_zero h0)
  · unfold sgn3 at h
    split at h
    · omega
    · split at h
      · omega
      · omega
theorem ord_of_size {f g : Fm} (h : f.size < g.size) : ord f g = -1 := by
  unfold ord; rw [show sgn3 f.size g.size = -1 by simp [sgn3, h]]; rfl
theorem ord_trans {f g h : Fm} (h1 : ord f g ≤ 0) (h2 : ord g h ≤ 0) : ord f h ≤ 0 := by
  have s1 := ord_size h1
  have s2 := ord_size h2
  by_cases he : f.size < h.size
  · rw [ord_of_size he]; omega
  · have e1 : sgn3 f.size g.size = 0 := by simp [sgn3]; omega
    have e2 : sgn3 g.size h.size = 0 := by simp [sgn3]; omega
    have e3 : sgn3 f.size h.size = 0 := by simp [sgn3]; omega
    unfold ord at *
    rw [e1] at h1; rw [e2] at h2; rw [e3]
    exact cmp_trans h1 h2
end Fm
end Go.Au

namespace Go.Au
open Go
namespace Fm
instance : DecidableEq Fm := fun _ _ => decidable_of_iff _ cmp_zero_iff

/-! ### places -/
def idx {α : Type} [DecidableEq α] : List α → α → Int
  | [], _ => -1
  | a :: r, x => if a = x then 0 else if idx r x < 0 then -1 else idx r x + 1
theorem idx_range {α : Type} [DecidableEq α] {x : α} : ∀ l : List α, (idx l x = -1 ∧ x ∉ l) ∨ ∃ i : Nat, idx l x = i ∧ l[i]? = some x ∧ ∀ j, j < i → l[j]? ≠ some x
  | [] => .inl ⟨rfl, by simp⟩
  | a :: r => by
    simp only [idx]
    by_cases h : a = x
    · rw [if_pos h]
      exact .inr ⟨0, rfl, by simp [h], fun j hj => by omega⟩
    · rw [if_neg h]
      rcases idx_range (x := x) r with ⟨h1, h2⟩ | ⟨i, h1, h2, h3⟩
      · rw [h1]
        exact .inl ⟨by simp, by simp [h2, Ne.symm h]⟩
      · rw [h1, if_neg (by omega)]
        refine .inr ⟨i + 1, by omega, by simpa using h2, fun j hj => ?_⟩
        cases j with
        | zero => simpa using h
        | succ j => simpa using h3 j (by omega)
theorem idx_mem {α : Type} [DecidableEq α] {x : α} {l : List α} (h : x ∈ l) : ∃ i : Nat, idx l x = i ∧ l[i]? = some x := by
  rcases idx_range (x := x) l with ⟨_, h2⟩ | ⟨i, h1, h2, _⟩
  · exact absurd h h2
  · exact ⟨i, h1, h2⟩
theorem idx_none {α : Type} [DecidableEq α] {x : α} {l : List α} (h : x ∉ l) : idx l x = -1 := by
  rcases idx_range (x := x) l with ⟨h1, _⟩ | ⟨i, _, h2, _⟩
  · exact h1
  · exact absurd (List.mem_of_getElem? h2) h
theorem idx_at {α : Type} [DecidableEq α] {x : α} {l : List α} {i : Nat} (hn : l.Nodup) (h : l[i]? = some x) : idx l x = i := by
  obtain ⟨j, h1, h2⟩ := idx_mem (List.mem_of_getElem? h)
  rw [h1]
  have hj := (List.getElem?_eq_some_iff.1 h2).1
  exact congrArg _ ((List.getElem?_inj hj hn).1 (h2.trans h.symm))
theorem idx_neg {α : Type} [DecidableEq α] {x : α} {l : List α} : idx l x < 0 ↔ x ∉ l := by
  rcases idx_range (x := x) l with ⟨h1, h2⟩ | ⟨i, h1, h2, _⟩
  · simp [h1, h2]
  · rw [h1]
    exact ⟨fun h => by omega, fun h => absurd (List.mem_of_getElem? h2) h⟩

/-! ### what is a formula -/
def kidsTab : List Int := [-1, 0, 0, 0, 1, 2, 2, 2, 2, 1, 1, 1, 2, 2, 2, 2, 1, 1, 1, 1, 2, 2]
def badB (c : UInt8) : Bool := decide ((c.toNat : Int) < 32) || decide (126 < (c.toNat : Int)) || decide ((c.toNat : Int) = 34) || decide ((c.toNat : Int) = 92)
def nameB (s : ByteArray) : Bool := decide (1 ≤ s.size) && decide (s.size ≤ 32) && s.data.toList.all fun c => !badB c
def nmOk (op : Nat) (n : ByteArray) : Bool := if op = 3 then nameB n else decide (n.size = 0)
def headOk (takes : Nat → Bool) (op : Nat) (n : ByteArray) (len : Nat) : Bool :=
  decide (op < 22) && decide (0 ≤ kidsTab.getD op (-1)) && decide ((len : Int) = kidsTab.getD op (-1)) && takes op && nmOk op n
mutual
def formed (takes : Nat → Bool) : Fm → Bool
  | .mk o n k => headOk takes o n k.length && formeds takes k
def formeds (takes : Nat → Bool) : List Fm → Bool
  | [] => true
  | f :: r => formed takes f && formeds takes r
end
theorem formeds_all (takes : Nat → Bool) : ∀ l, formeds takes l = l.all (formed takes)
  | [] => rfl
  | f :: r => by simp [formeds, formeds_all takes r]
def future (op : Nat) : Bool := decide (op < 16)
def big (f : Fm) : Bool := decide (1000 < f.size) || decide (100 < f.depth)
/-- 30 + what: 0, ErrTreeForm, ErrTreeBig by their numbers -/
def rightE (form bigE : Int) (f : Fm) : Int := if formed future f = false then form else if big f = true then bigE else 0
def right (f : Fm) : Bool := formed future f && !big f

/-! ### negation normal form -/
def head (k : List Fm) : Nat := match k with | [] => 0 | c :: _ => c.op
mutual
def isN : Fm → Bool
  | .mk o _ k => if o = 4 then decide (head k = 3) else if o = 7 ∨ o = 8 ∨ o = 10 ∨ o = 11 ∨ o = 14 ∨ o = 15 then false else isNs k
def isNs : List Fm → Bool
  | [] => true
  | f :: r => isN f && isNs r
end
theorem isNs_all : ∀ l, isNs l = l.all isN
  | [] => rfl
  | f :: r => by simp [isNs, isNs_all r]

/-! ### names -/
def addN (l : List ByteArray) (f : Fm) : List ByteArray := if f.op = 3 ∧ idx l f.name < 0 then l ++ [f.name] else l
def names (f : Fm) : List ByteArray := f.all.foldl addN []
theorem addN_nodup {l : List ByteArray} (h : l.Nodup) (f : Fm) : (addN l f).Nodup := by
  unfold addN
  split
  · rename_i hc
    rw [List.nodup_append]
    refine ⟨h, by simp, fun a ha b hb => ?_⟩
    simp only [List.mem_singleton] at hb
    subst hb
    exact fun he => idx_neg.1 hc.2 (he ▸ ha)
  · exact h
theorem addN_mem {l : List ByteArray} {f : Fm} {s : ByteArray} : s ∈ addN l f ↔ s ∈ l ∨ f.op = 3 ∧ s = f.name := by
  unfold addN
  split
  · rename_i hc
    simp [hc.1]
  · rename_i hc
    constructor
    · exact .inl
    · rintro (h | ⟨h1, rfl⟩)
      · exact h
      · exact Classical.byContradiction fun hm => hc ⟨h1, idx_neg.2 hm⟩
theorem foldN_mem {s : ByteArray} : ∀ (fs : List Fm) (l : List ByteArray), s ∈ fs.foldl addN l ↔ s ∈ l ∨ ∃ f ∈ fs, f.op = 3 ∧ s = f.name
  | [], l => by simp
  | a :: r, l => by
    rw [List.foldl_cons, foldN_mem r, addN_mem]
    simp only [List.mem_cons, or_assoc, exists_eq_or_imp]
theorem names_mem {f : Fm} {s : ByteArray} : s ∈ names f ↔ ∃ x ∈ f.all, x.op = 3 ∧ s = x.name := by
  unfold names
  rw [foldN_mem]
  simp

/-! ### all that stands in it, each once -/
def ins (x : Fm) : List Fm → List Fm
  | [] => [x]
  | y :: r => if ord x y < 0 then x :: y :: r else if ord x y = 0 then y :: r else y :: ins x r
def subs (f : Fm) : List Fm := f.all.foldr ins []
def Sorted (l : List Fm) : Prop := l.Pairwise fun a b => ord a b < 0
theorem mem_ins {x z : Fm} : ∀ {l : List Fm}, z ∈ ins x l ↔ z = x ∨ z ∈ l
  | [] => by simp [ins]
  | y :: r => by
    simp only [ins]
    split
    · simp
    · split
      · rename_i h
        have := ord_zero h
        subst this
        simp
      · simp [mem_ins (l := r)]
        exact ⟨fun h => by rcases h with h | h | h <;> simp [h], fun h => by rcases h with h | h | h <;> simp [h]⟩
theorem ord_lt_trans {a b c : Fm} (h1 : ord a b < 0) (h2 : ord b c < 0) : ord a c < 0 := by
  have h := ord_trans (Int.le_of_lt h1) (Int.le_of_lt h2)
  rcases Int.lt_or_eq_of_le h with h | h
  · exact h
  · have := ord_zero h
    subst this
    rw [ord_neg] at h2
    omega
theorem ins_sorted {x : Fm} : ∀ {l : List Fm}, Sorted l → Sorted (ins x l)
  | [], _ => by simp [ins, Sorted]
  | y :: r, h => by
    have hp := List.pairwise_cons.1 h
    simp only [ins]
    split
    · rename_i hlt
      refine List.pairwise_cons.2 ⟨fun z hz => ?_, h⟩
      rcases List.mem_cons.1 hz with rfl | hz
      · exact hlt
      · exact ord_lt_trans hlt (hp.1 z hz)
    · split
      · exact h
      · rename_i h1 h2
        refine List.pairwise_cons.2 ⟨fun z hz => ?_, ins_sorted hp.2⟩
        rcases mem_ins.1 hz with rfl | hz
        · rw [ord_neg]; omega
        · exact hp.1 z hz
theorem sortedF : ∀ l : List Fm, Sorted (l.foldr ins [])
  | [] => List.Pairwise.nil
  | a :: r => ins_sorted (sortedF r)
theorem subs_sorted (f : Fm) : Sorted (subs f) := sortedF _
theorem mem_foldI {z : Fm} : ∀ l : List Fm, z ∈ l.foldr ins [] ↔ z ∈ l
  | [] => by simp
  | a :: r => by simp [mem_ins, mem_foldI r]
theorem mem_subs {f z : Fm} : z ∈ subs f ↔ z ∈ f.all := mem_foldI _
theorem Sorted.nodup {l : List Fm} (h : Sorted l) : l.Nodup := h.imp fun {a b} hab he => by
  subst he; rw [ord_self] at hab; omega
/-- sorted lists of the same members are the same -/
theorem sorted_eq : ∀ {l m : List Fm}, Sorted l → Sorted m → (∀ x, x ∈ l ↔ x ∈ m) → l = m
  | [], [], _, _, _ => rfl
  | [], b :: m, _, _, h => by have := (h b).2 (by simp); simp at this
  | a :: l, [], _, _, h => by have := (h a).1 (by simp); simp at this
  | a :: l, b :: m, hl, hm, h => by
    have pl := List.pairwise_cons.1 hl
    have pm := List.pairwise_cons.1 hm
    have hab : a = b := by
      rcases List.mem_cons.1 ((h a).1 (by simp)) with h1 | h1
      · exact h1
      · rcases List.mem_cons.1 ((h b).2 (by simp)) with h2 | h2
        · exact h2.symm
        · have x1 := pm.1 a h1
          have x2 := pl.1 b h2
          rw [ord_neg] at x1
          omega
    subst hab
    rw [sorted_eq pl.2 pm.2 fun x => ?_]
    constructor
    · intro hx
      rcases List.mem_cons.1 ((h x).1 (by simp [hx])) with rfl | h1
      · have := pl.1 x hx; rw [ord_self] at this; omega
      · exact h1
    · intro hx
      rcases List.mem_cons.1 ((h x).2 (by simp [hx])) with rfl | h1
      · have := pm.1 x hx; rw [ord_self] at this; omega
      · exact h1
theorem subs_ne (f : Fm) : subs f ≠ [] := fun h => by
  have := mem_subs.2 (self_all f)
  rw [h] at this; cases this
/-- the formula itself is the last one -/
theorem subs_last (f : Fm) : (subs f)[(subs f).length - 1]? = some f := by
  obtain ⟨i, hi, hx⟩ := List.getElem_of_mem (mem_subs.2 (self_all f))
  have hl : i = (subs f).length - 1 := by
    by_cases h : i + 1 < (subs f).length
    · have hlt := List.pairwise_iff_getElem.1 (subs_sorted f) i (i + 1) hi h (by omega)
      rw [hx] at hlt
      have hm := mem_subs.1 (List.getElem_mem h)
      rcases all_size hm with he | hs
      · rw [he, ord_self] at hlt; omega
      · rw [ord_neg, ord_of_size hs] at hlt; omega
    · omega
  rw [← hl, List.getElem?_eq_getElem hi, hx]

end Fm
end Go.Au

namespace Go.Au
open Go Go.RowKit

/-! ### trees in memory -/
/-- a formula's three cells -/
def fmC (f : Fm) (v : Value) : List Value := [.int .u8 f.op, .string f.name, v]
def TreeN : Nat → Nat → Nat → World → List Value → Fm → Prop
  | 0, _, _, _, _, _ => False
  | n + 1, lo, hi, w, cs, f => ∃ v, cs = fmC f v ∧ RowE (TreeN n lo hi) 3 lo hi w v f.kids
abbrev KidsN (n lo hi : Nat) (w : World) (v : Value) (k : List Fm) : Prop := RowE (TreeN n lo hi) 3 lo hi w v k
theorem TreeN.chg {S : Nat → Prop} {lo hi : Nat} {w w' : World} (hc : Chg S w w') (hs : ∀ k, lo ≤ k → k < hi → ¬ S k) : ∀ {n : Nat} {cs : List Value} {f : Fm}, TreeN n lo hi w cs f → TreeN n lo hi w' cs f
  | _ + 1, _, _, ⟨v, h1, h2⟩ => ⟨v, h1, h2.chg hc hs fun _ _ h => TreeN.chg hc hs h⟩
theorem TreeN.mono {lo hi lo' hi' : Nat} {w : World} (h1 : lo' ≤ lo) (h2 : hi ≤ hi') : ∀ {n : Nat} {cs : List Value} {f : Fm}, TreeN n lo hi w cs f → TreeN n lo' hi' w cs f
  | _ + 1, _, _, ⟨v, h3, h4⟩ => ⟨v, h3, h4.mono (fun _ _ h => TreeN.mono h1 h2 h) h1 h2⟩
theorem TreeN.up {lo hi : Nat} {w : World} : ∀ {n : Nat} {cs : List Value} {f : Fm}, TreeN n lo hi w cs f → TreeN (n + 1) lo hi w cs f
  | _ + 1, _, _, ⟨v, h3, h4⟩ => ⟨v, h3, h4.mono (fun _ _ h => TreeN.up h) (Nat.le_refl _) (Nat.le_refl _)⟩
theorem TreeN.le {lo hi : Nat} {w : World} {n m : Nat} {cs : List Value} {f : Fm} (h : TreeN n lo hi w cs f) (hm : n ≤ m) : TreeN m lo hi w cs f := by
  induction m with
  | zero => rw [show n = 0 by omega] at h; exact h
  | succ m ih =>
    rcases Nat.lt_or_ge m n with h1 | h1
    · rw [show m + 1 = n by omega]; exact h
    · exact (ih h1).up
theorem KidsN.chg {S : Nat → Prop} {lo hi n : Nat} {w w' : World} {v : Value} {k : List Fm} (h : KidsN n lo hi w v k) (hc : Chg S w w') (hs : ∀ k, lo ≤ k → k < hi → ¬ S k) : KidsN n lo hi w' v k :=
  RowE.chg h hc hs fun _ _ h => TreeN.chg hc hs h
theorem KidsN.kp {lo hi n : Nat} {w w' : World} {v : Value} {k : List Fm} (h : KidsN n lo hi w v k) (hc : Kp w w') : KidsN n lo hi w' v k := h.chg hc fun _ _ _ => id
theorem TreeN.kp {lo hi n : Nat} {w w' : World} {cs : List Value} {f : Fm} (h : TreeN n lo hi w cs f) (hc : Kp w w') : TreeN n lo hi w' cs f := h.chg hc fun _ _ _ => id
theorem KidsN.mono {lo hi lo' hi' n : Nat} {w : World} {v : Value} {k : List Fm} (h : KidsN n lo hi w v k) (h1 : lo' ≤ lo) (h2 : hi ≤ hi') : KidsN n lo' hi' w v k :=
  RowE.mono h (fun _ _ h => TreeN.mono h1 h2 h) h1 h2
theorem KidsN.le {lo hi n m : Nat} {w : World} {v : Value} {k : List Fm} (h : KidsN n lo hi w v k) (hm : n ≤ m) : KidsN m lo hi w v k :=
  RowE.mono h (fun _ _ h => h.le hm) (Nat.le_refl _) (Nat.le_refl _)
theorem KidsN.depth {lo hi n : Nat} {w : World} {v : Value} {k : List Fm} (h : KidsN n lo hi w v k) (ih : ∀ {cs : List Value} {f : Fm}, TreeN n lo hi w cs f → f.depth ≤ n) : Fm.depths k ≤ n := by
  obtain ⟨a, c, -, -, h⟩ := h
  have : ∀ x ∈ k, Fm.depth x ≤ n := fun x hx => by
    obtain ⟨i, hi⟩ := List.getElem?_of_mem hx
    obtain ⟨b, o, -, -, -, cs, -, -, ht⟩ := h i x hi
    exact ih ht
  clear h
  induction k with
  | nil => simp [Fm.depths]
  | cons a r ihk =>
    have h1 := this a (by simp)
    have h2 := ihk fun x hx => this x (by simp [hx])
    simp only [Fm.depths]
    omega
theorem TreeN.depth {lo hi : Nat} {w : World} : ∀ {n : Nat} {cs : List Value} {f : Fm}, TreeN n lo hi w cs f → f.depth ≤ n
  | _ + 1, _, .mk o nm k, ⟨v, h1, h2⟩ => by
    have := KidsN.depth h2 TreeN.depth
    simp only [Fm.depth, Fm.kids] at *
    omega
/-- a kid -/
theorem KidsN.kid {lo hi n i c : Nat} {w : World} {a : Option Addr} {k : List Fm} {x : Fm} (h : KidsN (n + 1) lo hi w (.slice a k.length c) k) (hx : k[i]? = some x) : ∃ b o v, a = some ⟨b, o, none⟩ ∧ lo ≤ b ∧ b < hi ∧ w.rangeAt b (o + i * 3) (fmC x v) ∧ KidsN n lo hi w v x.kids := by
  obtain ⟨a', c', h1, -, h⟩ := h
  injection h1 with h1 _ _
  subst h1
  obtain ⟨b, o, rfl, h2, h3, cs, -, h4, v, rfl, h5⟩ := h i x hx
  exact ⟨b, o, v, rfl, h2, h3, h4, h5⟩
theorem KidsN.kid0 {lo hi i c : Nat} {w : World} {a : Option Addr} {k : List Fm} {x : Fm} (h : KidsN 0 lo hi w (.slice a k.length c) k) (hx : k[i]? = some x) : False := by
  obtain ⟨a', c', h1, -, h⟩ := h
  obtain ⟨b, o, -, -, -, cs, -, -, h5⟩ := h i x hx
  exact h5
theorem KidsN.slice {lo hi n : Nat} {w : World} {v : Value} {k : List Fm} (h : KidsN n lo hi w v k) : ∃ a c, v = .slice a k.length c ∧ k.length ≤ c := by
  obtain ⟨a, c, h1, h2, -⟩ := h
  exact ⟨a, c, h1, h2⟩
end Go.Au

namespace Go.Au
open Go Go.RowKit

/-! ### rows by a number, each grown by itself -/
section
variable {β : Type}
def keyed (L : List (Int × β)) (s : Int) : List β := (L.filter (fun p => decide (p.1 = s))).map (·.2)
theorem keyed_snoc (L : List (Int × β)) (a : Int) (x : β) (s : Int) : keyed (L ++ [(a, x)]) s = if a = s then keyed L s ++ [x] else keyed L s := by
  simp only [keyed, List.filter_append, List.map_append]
  split
  · rename_i h; simp [h]
  · rename_i h; simp [h]
theorem keyed_mem {L : List (Int × β)} {s : Int} {x : β} : x ∈ keyed L s ↔ (s, x) ∈ L := by
  simp only [keyed, List.mem_map, List.mem_filter, decide_eq_true_eq]
  constructor
  · rintro ⟨⟨a, b⟩, ⟨h1, rfl⟩, rfl⟩; exact h1
  · intro h; exact ⟨(s, x), ⟨h, rfl⟩, rfl⟩
theorem keyed_len (L : List (Int × β)) (s : Int) : (keyed L s).length ≤ L.length := by
  unfold keyed; rw [List.length_map]; exact List.length_filter_le _ _

structure RowsV (rowT el : TypeId) (size : Nat) (f : β → List Value) (w : World) (base bb n : Nat) (vs : List Value) (L : List (Int × β)) : Prop where
  len : vs.length = n
  mb : Own w bb rowT vs
  bag : Bag w base el size ((List.range n).map fun (s : Nat) => (vs.getD s nilS, (keyed L s).flatMap f))

variable {rowT el : TypeId} {size : Nat} {f : β → List Value} {w w' w'' : World} {base bb n : Nat} {vs : List Value} {L : List (Int × β)}
theorem rep_nil (n : Nat) : rep [nilS] n = List.replicate n nilS := by
  induction n with
  | zero => rfl
  | succ n ih => simp [rep, ih, List.replicate_succ]
theorem rep_one (v : Value) (n : Nat) : rep [v] n = List.replicate n v := by
  induction n with
  | zero => rfl
  | succ n ih => simp [rep, ih, List.replicate_succ]
theorem RowsV.zero (m : Own w bb rowT (rep [nilS] n)) : RowsV rowT el size f w base bb n (rep [nilS] n) [] := by
  refine ⟨by simp [rep_nil], m, ⟨fun y hy => ?_, ?_⟩⟩
  · obtain ⟨s, hs, rfl⟩ := List.mem_map.1 hy
    refine ⟨0, ?_⟩
    simp only [rep_nil, keyed, List.filter_nil, List.map_nil, List.flatMap_nil]
    have : (List.replicate n nilS).getD s nilS = nilS := by simp [List.getD_eq_getElem?_getD, List.getElem?_replicate]; split <;> rfl
    rw [this]
    exact World.ownsRow_nil _ _ _ _
  · rw [List.pairwise_map]
    refine List.pairwise_of_forall fun a b c hc => ?_
    have : (rep [nilS] n).getD a nilS = nilS := by simp [rep_nil, List.getD_eq_getElem?_getD, List.getElem?_replicate]; split <;> rfl
    simp only [this, Value.ownBlock] at hc
    cases hc
theorem RowsV.kp (h : RowsV rowT el size f w base bb n vs L) (hc : Kp w w') : RowsV rowT el size f w' base bb n vs L := ⟨h.len, hc.own h.mb id, h.bag.kp hc⟩
theorem RowsV.set (hne : rowT ≠ el) (h : RowsV rowT el size f w base bb n vs L) {a : Int} {x : β} {k : Nat} (hf : a = (k : Int)) (hfn : k < n) {v' : Value} {n' : Nat}
    (hc : Chg (fun j => some j = (vs.getD k nilS).ownBlock) w w') (hv : w'.ownsRow base el size v' n' ((keyed L k).flatMap f ++ f x)) (hnew : ∀ g, v'.ownBlock = some g → (vs.getD k nilS).ownBlock = some g ∨ w.heap.size ≤ g)
    (hc2 : Chg (fun j => j = bb) w' w'') (hm : Own w'' bb rowT (vs.set k v')) : RowsV rowT el size f w'' base bb n (vs.set k v') (L ++ [(a, x)]) := by
  refine ⟨by simp [h.len], hm, ?_⟩
  have hi : ((List.range n).map fun (s : Nat) => (vs.getD s nilS, (keyed L s).flatMap f))[k]? = some (vs.getD k nilS, (keyed L k).flatMap f) := by simp [hfn]
  have hb1 := h.bag.set hi hc (fun b hb => .inl hb) hv hnew
  have heq : (List.range n).map (fun (s : Nat) => ((vs.set k v').getD s nilS, (keyed (L ++ [(a, x)]) s).flatMap f)) = ((List.range n).map fun (s : Nat) => (vs.getD s nilS, (keyed L s).flatMap f)).set k (v', (keyed L k).flatMap f ++ f x) := by
    apply List.ext_getElem?
    intro i
    rw [List.getElem?_set]
    simp only [List.getElem?_map, List.length_map, List.length_range]
    by_cases hin : i < n
    · rw [List.getElem?_range hin]
      simp only [Option.map_some]
      rw [keyed_snoc, hf]
      by_cases hif : k = i
      · subst hif
        rw [if_pos rfl, if_pos rfl, if_pos hin]
        simp [h.len, hin]
      · rw [if_neg hif, if_neg (by omega)]
        simp [List.getElem?_set, hif]
    · rw [List.getElem?_eq_none (by simpa using hin)]
      by_cases hif : k = i
      · omega
      · rw [if_neg hif]; rfl
  rw [heq]
  have hkind : ∀ cs fr, Obj.cells vs.toArray rowT (0, 0) ≠ .cells cs el fr := fun cs fr hh => by injection hh with _ h2; exact hne h2
  have hm' : ∀ x' ∈ ((List.range n).map fun (s : Nat) => (vs.getD s nilS, (keyed L s).flatMap f)).set k (v', (keyed L k).flatMap f ++ f x), x'.1.ownBlock ≠ some bb := by
    refine hb1.ne (o := .cells vs.toArray rowT (0, 0)) ?_ hkind
    refine hc.heap h.mb fun he => ?_
    exact h.bag.ne h.mb hkind _ (List.mem_of_getElem? hi) he.symm
  exact hb1.chg hc2 fun x hx b hb2 hs => by subst hs; exact hm' x hx hb2
/-- a row of it -/
theorem RowsV.at_ (h : RowsV rowT el size f w base bb n vs L) (hf : ∀ x, (f x).length = size) (hpos : 0 < size) {k : Nat} (hk : k < n) : w.ownsRow base el size (vs.getD k nilS) (keyed L k).length ((keyed L k).flatMap f) := by
  obtain ⟨m, hm⟩ := h.bag.own (vs.getD k nilS, (keyed L k).flatMap f) (List.mem_map.2 ⟨k, by simpa using hk, rfl⟩)
  have := hm.1
  rw [flat_len hf] at this
  have : m = (keyed L k).length := (Nat.eq_of_mul_eq_mul_right hpos this).symm
  exact this ▸ hm
theorem RowsV.get (h : RowsV rowT el size f w base bb n vs L) {k : Nat} (hk : k < n) : vs[k]? = some (vs.getD k nilS) := by simp [List.getD_eq_getElem?_getD, h.len, hk]
theorem RowsV.row (h : RowsV rowT el size f w base bb n vs L) (hb : base ≤ bb) (hf : ∀ x, (f x).length = size) (hpos : 0 < size) : RowE (fun w cs (xs : List β) => ∃ u, cs = [u] ∧ RowE (fun _ cs x => cs = f x) size base w.heap.size w u xs) 1 base w.heap.size w (.slice (some ⟨bb, 0, none⟩) n n) ((List.range n).map fun (s : Nat) => keyed L s) := by
  have hlt := h.mb.lt
  refine row1R h.mb (fun i x hx => ?_) (by simp) (by simp) hb hlt
  rw [List.getElem?_map] at hx
  have hin : i < n := by
    rcases Nat.lt_or_ge i n with h1 | h1
    · exact h1
    · rw [List.getElem?_eq_none (by simpa using h1)] at hx; cases hx
  rw [List.getElem?_range hin] at hx
  simp only [Option.map_some, Option.some.injEq] at hx
  subst hx
  exact ⟨_, h.get hin, _, rfl, ownsRow_row (f := f) hf (h.at_ hf hpos hin) hpos⟩
end

section
variable {α : Type} {w : World} {base n size : Nat} {el : TypeId} {v : Value} {vs : List Value} {xs : List α} {E : World → List Value → α → Prop}
/-- a row of one's own of single cells, each of which is told -/
theorem ownsRow_rowR (h : w.ownsRow base el 1 v n vs) (hn : xs.length = n) (hE : ∀ (i : Nat) (x : α), xs[i]? = some x → ∃ u : Value, vs[i]? = some u ∧ E w [u] x) : RowE E 1 base w.heap.size w v xs := by
  subst hn
  rcases h.2 with ⟨rfl, h0⟩ | ⟨g, cap, cur, rfl, a2, a3, a4, a5, a6, a7⟩
  · have hl : xs = [] := List.eq_nil_of_length_eq_zero (by omega)
    subst hl
    exact ⟨none, 0, rfl, Nat.le_refl _, fun i x hx => by simp at hx⟩
  · refine ⟨_, cap, rfl, a4, fun i x hx => ?_⟩
    obtain ⟨u, hu, he⟩ := hE i x hx
    refine ⟨g, 0, rfl, a2, lt_of_heap a3, [u], rfl, ?_, he⟩
    intro j y hy
    cases j with
    | succ j => simp at hy
    | zero =>
      simp at hy
      subst hy
      rw [cell_of_row w g _ cur el (0, 0) a3]
      rw [← a7, List.getElem?_take] at hu
      split at hu
      · simpa using hu
      · cases hu
end
end Go.Au

namespace Go.Au
open Go Go.RowKit
section
variable {P : Program} {w : World}
/-- the greater of two numbers -/
theorem mx {ρ : Operand → Value} {op : Oper} {ts : Array TypeId} {x y : Operand} {k k' : IntKind} {a b : Int} {K : Value → World → Prop} (ho : op.op = .call { callee := .builtin .max, args := #[x, y], argTypes := ts }) (hx : ρ x = .int k a) (hy : ρ y = .int k' b)
    (hk : K (.int k (if b > a then b else a)) w) : Raw P ρ op w K := by
  refine ⟨_, w, ?_, hk⟩
  unfold execOp
  simp only [ho, resolve, invoke, builtin, Sem.run_bind, Sem.run_pure, Result.andThen_ok, List.map_toArray, List.map_cons, List.map_nil, hx, hy, run_max_int2]
end
end Go.Au
namespace Go.Au
open Go Go.RowKit
theorem mxE {P : Program} {w : World} {ρ : Operand → Value} {op : Oper} {ts : Array TypeId} {x y : Operand} {k k' : IntKind} {a b z : Int} {K : Value → World → Prop} (ho : op.op = .call { callee := .builtin .max, args := #[x, y], argTypes := ts }) (hx : ρ x = .int k a) (hy : ρ y = .int k' b)
    (hz : (if b > a then b else a) = z) (hk : K (.int k z) w) : Raw P ρ op w K := mx ho hx hy (by rw [hz]; exact hk)
end Go.Au

namespace Go.Au
open Go Go.RowKit

/-! ### Size, Depth -/
theorem sizes_take {k : List Fm} {i : Nat} {x : Fm} (h : k[i]? = some x) : Fm.sizes (k.take (i + 1)) = Fm.sizes (k.take i) + x.size := by
  obtain ⟨hi, rfl⟩ := List.getElem?_eq_some_iff.1 h
  rw [List.take_succ_eq_append_getElem hi, Fm.sizes_append]
  simp [Fm.sizes]
theorem depths_take {k : List Fm} {i : Nat} {x : Fm} (h : k[i]? = some x) : Fm.depths (k.take (i + 1)) = max (Fm.depths (k.take i)) x.depth := by
  obtain ⟨hi, rfl⟩ := List.getElem?_eq_some_iff.1 h
  rw [List.take_succ_eq_append_getElem hi, Fm.depths_append]
  simp [Fm.depths]
theorem sizes_take_le (k : List Fm) (i : Nat) : Fm.sizes (k.take i) ≤ Fm.sizes k := by
  have h := Fm.sizes_append (k.take i) (k.drop i)
  rw [List.take_append_drop] at h
  omega
theorem kids_le : ∀ k : List Fm, k.length ≤ Fm.sizes k
  | [] => by simp [Fm.sizes]
  | f :: r => by
    have := kids_le r
    have := Fm.size_pos f
    simp only [Fm.sizes, List.length_cons]
    omega
theorem size_kids (f : Fm) : f.size = Fm.sizes f.kids + 1 := by obtain ⟨o, n, k⟩ := f; rfl
theorem depth_kids (f : Fm) : f.depth = Fm.depths f.kids + 1 := by obtain ⟨o, n, k⟩ := f; rfl
abbrev fmA (f : Fm) (v : Value) : Value := .agg (fmC f v).toArray
theorem callSize : callable Proofs.Tryz.prog 191 = true := by kernel_rfl
theorem size_c : ∀ (n lo hi : Nat) (w : World) (v : Value) (f : Fm), KidsN n lo hi w v f.kids → f.size < 4611686018427387904 →
    Calls Proofs.Tryz.prog 191 [fmA f v].toArray w (Ret fun r w' => r = .int .i64 f.size ∧ Kp w w') := by
  intro n
  induction n using Nat.strongRecOn with
  | ind n ih =>
    intro lo hi w v f h hs
    obtain ⟨a, c, rfl, hc⟩ := h.slice
    have hkl := kids_le f.kids
    have hsz := size_kids f
    refine call agree Proofs.Tryz.func191 rfl Proofs.Tryz.ntmps191 (by kernel_rfl) ?_
    refine nd fun m w1 e1 e2 k1 hm => ?_
    refine ld agree (Own.at_ (xs := [.slice a f.kids.length c]) hm rfl) (by rfl) ?_
    refine loop agree (σ := Nat) (fun i => [(3, .int .i64 (Fm.sizes (f.kids.take i) + 1 : Nat)), (7, .slice a f.kids.length c), (8, .int .i64 f.kids.length), (9, .int .i64 i)]) (fun i w' => Kp w w' ∧ i ≤ f.kids.length) (fun i => f.kids.length - i) 0 ⟨rfl, rfl, rfl, rfl, trivial⟩ ⟨k1, by omega⟩ ?_
    rintro i e0 w2 ⟨hk2, hi2⟩
    refine sp (fun h1 => ?_) (fun h1 => ?_)
    · have hi' : i < f.kids.length := by omega
      have hx := List.getElem?_eq_getElem hi'
      generalize f.kids[i] = x at hx
      obtain _ | n := n
      · exact (h.kid0 hx).elim
      obtain ⟨b, o, u, rfl, hlo, hhi, hrd, hku⟩ := h.kid hx
      obtain ⟨ua, uc, rfl, -⟩ := hku.slice
      have hst := sizes_take hx
      have hsl := sizes_take_le f.kids (i + 1)
      refine ne ⟨by omega, h1⟩ ?_
      refine ld agree (hk2.range hrd id) (by rfl) ?_
      refine nd fun m5 w3 e3 e4 k3 hm5 => ?_
      refine st agree hm5 rfl (Nat.le_refl 3) rfl fun w4 e5 k4 hm6 => ?_
      have hk4 : Kp w w4 := (hk2.trans k3).newS k4 (fun j hj => by subst hj; have := hk2.size; omega)
      refine ld agree (Own.at_ (xs := fmC x _) (show Own w4 m5 _ (fmC x _) from hm6) rfl) (by rfl) ?_
      refine cl callSize (ih n (by omega) lo hi w4 _ x (hku.kp hk4) (by omega)) ?_
      rintro _ w5 ⟨rfl, k5⟩
      refine aw (by omega) (by omega) ?_
      refine aw (by omega) (by omega) ?_
      refine again (i + 1) ⟨congrArg (Value.int .i64) (by rw [hst]; omega), rfl, rfl, rfl, trivial⟩ ⟨hk4.trans k5, by omega⟩ (by omega)
    · refine ⟨congrArg (Value.int .i64) ?_, hk2⟩
      rw [hsz, show i = f.kids.length by omega, List.take_length]
theorem callDepth : callable Proofs.Tryz.prog 192 = true := by kernel_rfl
theorem depth_c : ∀ (n lo hi : Nat) (w : World) (v : Value) (f : Fm), KidsN n lo hi w v f.kids → f.size < 4611686018427387904 →
    Calls Proofs.Tryz.prog 192 [fmA f v].toArray w (Ret fun r w' => r = .int .i64 f.depth ∧ Kp w w') := by
  intro n
  induction n using Nat.strongRecOn with
  | ind n ih =>
    intro lo hi w v f h hs
    obtain ⟨a, c, rfl, hc⟩ := h.slice
    have hkl := kids_le f.kids
    have hsz := size_kids f
    have hdp := depth_kids f
    have hds := Fm.depth_le_size f
    refine call agree Proofs.Tryz.func192 rfl Proofs.Tryz.ntmps192 (by kernel_rfl) ?_
    refine nd fun m w1 e1 e2 k1 hm => ?_
    refine ld agree (Own.at_ (xs := [.slice a f.kids.length c]) hm rfl) (by rfl) ?_
    refine loop agree (σ := Nat) (fun i => [(3, .int .i64 (Fm.depths (f.kids.take i))), (7, .slice a f.kids.length c), (8, .int .i64 f.kids.length), (9, .int .i64 i)]) (fun i w' => Kp w w' ∧ i ≤ f.kids.length) (fun i => f.kids.length - i) 0 ⟨rfl, rfl, rfl, rfl, trivial⟩ ⟨k1, by omega⟩ ?_
    rintro i e0 w2 ⟨hk2, hi2⟩
    refine sp (fun h1 => ?_) (fun h1 => ?_)
    · have hi' : i < f.kids.length := by omega
      have hx := List.getElem?_eq_getElem hi'
      generalize f.kids[i] = x at hx
      obtain _ | n := n
      · exact (h.kid0 hx).elim
      obtain ⟨b, o, u, rfl, hlo, hhi, hrd, hku⟩ := h.kid hx
      obtain ⟨ua, uc, rfl, -⟩ := hku.slice
      have hst := depths_take hx
      have hsl := sizes_take_le f.kids (i + 1)
      have hst2 := sizes_take hx
      refine ne ⟨by omega, h1⟩ ?_
      refine ld agree (hk2.range hrd id) (by rfl) ?_
      refine nd fun m5 w3 e3 e4 k3 hm5 => ?_
      refine st agree hm5 rfl (Nat.le_refl 3) rfl fun w4 e5 k4 hm6 => ?_
      have hk4 : Kp w w4 := (hk2.trans k3).newS k4 (fun j hj => by subst hj; have := hk2.size; omega)
      refine ld agree (Own.at_ (xs := fmC x _) (show Own w4 m5 _ (fmC x _) from hm6) rfl) (by rfl) ?_
      refine cl callDepth (ih n (by omega) lo hi w4 _ x (hku.kp hk4) (by omega)) ?_
      rintro _ w5 ⟨rfl, k5⟩
      refine mxE (z := (max (Fm.depths (f.kids.take i)) x.depth : Nat)) rfl rfl rfl (by split <;> omega) ?_
      refine aw (by omega) (by omega) ?_
      refine again (i + 1) ⟨congrArg (Value.int .i64) (by rw [hst]), rfl, rfl, rfl, trivial⟩ ⟨hk4.trans k5, by omega⟩ (by omega)
    · have hil : i = f.kids.length := by omega
      subst hil
      rw [List.take_length] at *
      refine aw (by omega) (by omega) ?_
      exact ⟨congrArg (Value.int .i64) (by rw [hdp]; rfl), hk2⟩
end Go.Au

namespace Go.Au
open Go Go.RowKit

theorem mixed : Proofs.Tryz.prog.follows .mixedOrders = true := by kernel_rfl
abbrev Ints := RowE (fun _ cs (x : Int) => cs = [.int .i64 x]) 1
abbrev Strs := RowE (fun _ cs (x : ByteArray) => cs = [.string x]) 1
def cmp3 (a b : Int) : Int := if a < b then -1 else if b < a then 1 else 0
def firstOf : List Int → Int
  | [] => 0
  | x :: r => if x = 0 then firstOf r else x

/-! ### orders of the library -/
theorem isNaNi_c (w : World) (x : Int) : Calls Proofs.Tryz.prog 158 [.int .i64 x].toArray w (Ret fun r w' => r = .bool false ∧ Kp w w') := by
  refine call agree Proofs.Tryz.func158 rfl Proofs.Tryz.ntmps158 (by kernel_rfl) ?_
  exact spF (fun h => h rfl) ⟨rfl, Chg.refl _ _⟩
theorem isNaNo_c (w : World) (x : Int) : Calls Proofs.Tryz.prog 156 [.int .u8 x].toArray w (Ret fun r w' => r = .bool false ∧ Kp w w') := by
  refine call agree Proofs.Tryz.func156 rfl Proofs.Tryz.ntmps156 (by kernel_rfl) ?_
  exact spF (fun h => h rfl) ⟨rfl, Chg.refl _ _⟩
theorem isNaNw_c (w : World) (x : Int) : Calls Proofs.Tryz.prog 213 [.int .u64 x].toArray w (Ret fun r w' => r = .bool false ∧ Kp w w') := by
  refine call agree Proofs.Tryz.func213 rfl Proofs.Tryz.ntmps213 (by kernel_rfl) ?_
  exact spF (fun h => h rfl) ⟨rfl, Chg.refl _ _⟩
theorem callNaNi : callable Proofs.Tryz.prog 158 = true := by kernel_rfl
theorem callNaNo : callable Proofs.Tryz.prog 156 = true := by kernel_rfl
theorem callNaNw : callable Proofs.Tryz.prog 213 = true := by kernel_rfl
theorem compi_c (w : World) (a b : Int) : Calls Proofs.Tryz.prog 105 [.int .i64 a, .int .i64 b].toArray w (Ret fun r w' => r = .int .i64 (cmp3 a b) ∧ Kp w w') := by
  refine call agree Proofs.Tryz.func105 rfl Proofs.Tryz.ntmps105 (by kernel_rfl) ?_
  refine cl callNaNi (isNaNi_c w a) ?_
  rintro _ w1 ⟨rfl, k1⟩
  refine cl callNaNi (isNaNi_c w1 b) ?_
  rintro _ w2 ⟨rfl, k2⟩
  refine sp (fun h => ?_) (fun h => ?_)
  · exact ⟨congrArg (Value.int .i64) (by simp [cmp3, h]), k1.trans k2⟩
  · refine sp (fun h2 => ?_) (fun h2 => ?_)
    · exact ⟨congrArg (Value.int .i64) (by simp [cmp3, h, h2]), k1.trans k2⟩
    · exact ⟨congrArg (Value.int .i64) (by simp [cmp3, h, h2]), k1.trans k2⟩
theorem compo_c (w : World) (a b : Int) : Calls Proofs.Tryz.prog 103 [.int .u8 a, .int .u8 b].toArray w (Ret fun r w' => r = .int .i64 (cmp3 a b) ∧ Kp w w') := by
  refine call agree Proofs.Tryz.func103 rfl Proofs.Tryz.ntmps103 (by kernel_rfl) ?_
  refine cl callNaNo (isNaNo_c w a) ?_
  rintro _ w1 ⟨rfl, k1⟩
  refine cl callNaNo (isNaNo_c w1 b) ?_
  rintro _ w2 ⟨rfl, k2⟩
  refine sp (fun h => ?_) (fun h => ?_)
  · exact ⟨congrArg (Value.int .i64) (by simp [cmp3, h]), k1.trans k2⟩
  · refine sp (fun h2 => ?_) (fun h2 => ?_)
    · exact ⟨congrArg (Value.int .i64) (by simp [cmp3, h, h2]), k1.trans k2⟩
    · exact ⟨congrArg (Value.int .i64) (by simp [cmp3, h, h2]), k1.trans k2⟩
theorem compw_c (w : World) (a b : Int) : Calls Proofs.Tryz.prog 171 [.int .u64 a, .int .u64 b].toArray w (Ret fun r w' => r = .int .i64 (cmp3 a b) ∧ Kp w w') := by
  refine call agree Proofs.Tryz.func171 rfl Proofs.Tryz.ntmps171 (by kernel_rfl) ?_
  refine cl callNaNw (isNaNw_c w a) ?_
  rintro _ w1 ⟨rfl, k1⟩
  refine cl callNaNw (isNaNw_c w1 b) ?_
  rintro _ w2 ⟨rfl, k2⟩
  refine sp (fun h => ?_) (fun h => ?_)
  · exact ⟨congrArg (Value.int .i64) (by simp [cmp3, h]), k1.trans k2⟩
  · refine sp (fun h2 => ?_) (fun h2 => ?_)
    · exact ⟨congrArg (Value.int .i64) (by simp [cmp3, h, h2]), k1.trans k2⟩
    · exact ⟨congrArg (Value.int .i64) (by simp [cmp3, h, h2]), k1.trans k2⟩
theorem callCompi : callable Proofs.Tryz.prog 105 = true := by kernel_rfl
theorem callCompo : callable Proofs.Tryz.prog 103 = true := by kernel_rfl
theorem callCompw : callable Proofs.Tryz.prog 171 = true := by kernel_rfl
theorem cmp3_nat (a b : Nat) : cmp3 a b = Fm.sgn3 a b := by
  unfold cmp3 Fm.sgn3
  repeat' split
  all_goals omega
theorem firstOf2 (a b : Int) : firstOf [a, b] = Fm.orI a b := by
  simp only [firstOf, Fm.orI]
  split
  · split <;> simp_all
  · rfl
theorem firstOf3 (a b c : Int) : firstOf [a, b, c] = Fm.orI a (Fm.orI b c) := by
  simp only [firstOf, Fm.orI]
  repeat' split
  all_goals simp_all
theorem or_c {w : World} {lo hi : Nat} {v : Value} {xs : List Int} (h : Ints lo hi w v xs) (hl : xs.length < 4611686018427387904) :
    Calls Proofs.Tryz.prog 102 [v].toArray w (Ret fun r w' => r = .int .i64 (firstOf xs) ∧ Kp w w') := by
  obtain ⟨a, cap, rfl, hcap, hx⟩ := h
  refine call agree Proofs.Tryz.func102 rfl Proofs.Tryz.ntmps102 (by kernel_rfl) ?_
  refine loop agree (σ := Nat) (fun i => [(3, .int .i64 0), (6, .slice a xs.length cap), (7, .int .i64 xs.length), (8, .int .i64 i)])
    (fun i w' => Kp w w' ∧ i ≤ xs.length ∧ firstOf xs = firstOf (xs.drop i)) (fun i => xs.length - i) 0
    ⟨rfl, rfl, rfl, rfl, trivial⟩ ⟨Chg.refl _ _, by omega, by simp⟩ ?_
  rintro i e0 w1 ⟨hk, hi, hr⟩
  refine sp (fun h1 => ?_) (fun h1 => ?_)
  · obtain ⟨b, o, rfl, hlo, hhi, cs, hcs, hrd, rfl⟩ := hx i xs[i] (by simp)
    refine ne ⟨by omega, h1⟩ ?_
    refine ld agree (hk.range hrd id) rfl ?_
    have hi' : i < xs.length := by omega
    rw [List.drop_eq_getElem_cons hi'] at hr
    refine sp (fun h2 => ?_) (fun h2 => ?_)
    · exact ⟨congrArg (Value.int .i64) (by rw [hr]; simp [firstOf, h2]), hk⟩
    · refine aw (by omega) (by omega) ?_
      refine again (i + 1) ⟨rfl, rfl, rfl, rfl, trivial⟩ ⟨hk, by omega, ?_⟩ (by omega)
      rw [hr]; simp only [firstOf]; rw [if_pos (by omega)]
  · exact ⟨congrArg (Value.int .i64) (by rw [hr, List.drop_eq_nil_of_le (by omega)]; rfl), hk⟩
theorem callOr : callable Proofs.Tryz.prog 102 = true := by kernel_rfl
theorem compareBytes_eq : ∀ a b : List UInt8, Lib.compareBytes a b = Fm.cmpL (a.map UInt8.toNat) (b.map UInt8.toNat)
  | [], [] => rfl
  | [], _ :: _ => rfl
  | _ :: _, [] => rfl
  | a :: r, b :: s => by
    simp only [Lib.compareBytes, List.map_cons, Fm.cmpL, compareBytes_eq r s, Fm.orI, Fm.sgn3, UInt8.lt_iff_toNat_lt]
    repeat' split
    all_goals simp_all
set_option maxHeartbeats 1000000 in
set_option maxRecDepth 100000 in
theorem cmpStr0 (a b : ByteArray) (w : World) : Calls Proofs.Tryz.prog 157 #[.string a, .string b] w fun e w' => e = .returned (.int .i64 (Lib.compareBytes a.data.toList b.data.toList)) ∧ w' = w := by
  go_enter Proofs.Tryz.func157, Proofs.Tryz.ntmps157
  go_wp2
  rw [run_callFunc_extern Proofs.Tryz.func180 (by kernel_rfl) (by kernel_rfl) (by kernel_rfl) (e := Extern.BytealgCompare.compare) (by kernel_rfl), Lib.run_compareString]
  simp only [Result.andThen]
  rw [Oper.upon_value]
  go_wp2
  go_ret
  exact ⟨rfl, rfl⟩
theorem callCmpStr : callable Proofs.Tryz.prog 157 = true := by kernel_rfl
theorem cmpStr_c (w : World) (a b : ByteArray) : Calls Proofs.Tryz.prog 157 [.string a, .string b].toArray w (Ret fun r w' => r = .int .i64 (Fm.cmpL (Fm.bytesI a) (Fm.bytesI b)) ∧ Kp w w') := by
  refine (cmpStr0 a b w).mono ?_
  rintro e w' ⟨rfl, rfl⟩
  exact ⟨by rw [compareBytes_eq]; rfl, Chg.refl _ _⟩
theorem callComps : callable Proofs.Tryz.prog 104 = true := by kernel_rfl
theorem comps_c (w : World) (a b : ByteArray) : Calls Proofs.Tryz.prog 104 [.string a, .string b].toArray w (Ret fun r w' => r = .int .i64 (Fm.cmpL (Fm.bytesI a) (Fm.bytesI b)) ∧ Kp w w') := by
  refine call agree Proofs.Tryz.func104 rfl Proofs.Tryz.ntmps104 (by kernel_rfl) ?_
  refine cl callCmpStr (cmpStr_c w a b) ?_
  rintro _ w1 ⟨rfl, k1⟩
  exact ⟨rfl, k1⟩
end Go.Au

namespace Go.Au
open Go Go.RowKit

/-! ### Cmp -/
theorem callCmpF : callable Proofs.Tryz.prog 106 = true := by kernel_rfl
theorem cmps_drop {k k' : List Fm} {i : Nat} {x y : Fm} (hx : k[i]? = some x) (hy : k'[i]? = some y) : Fm.cmps (k.drop i) (k'.drop i) = Fm.orI (Fm.cmp x y) (Fm.cmps (k.drop (i + 1)) (k'.drop (i + 1))) := by
  obtain ⟨hi, rfl⟩ := List.getElem?_eq_some_iff.1 hx
  obtain ⟨hj, rfl⟩ := List.getElem?_eq_some_iff.1 hy
  rw [List.drop_eq_getElem_cons hi, List.drop_eq_getElem_cons hj]
  rfl
theorem compareF_c {n lo hi lo' hi' : Nat} {w : World} {v v' : Value} {k k' : List Fm} (h : KidsN n lo hi w v k) (h' : KidsN n lo' hi' w v' k') (hl : k.length < 4611686018427387904) (g : FuncId) (hg : callable Proofs.Tryz.prog g = true)
    (hf : ∀ m, n = m + 1 → ∀ W u x u' y, KidsN m lo hi W u x.kids → KidsN m lo' hi' W u' y.kids → x ∈ k → y ∈ k' → Calls Proofs.Tryz.prog g [fmA x u, fmA y u'].toArray W (Ret fun r w' => r = .int .i64 (Fm.cmp x y) ∧ Kp W w')) :
    Calls Proofs.Tryz.prog 106 [v, v', .func (.func g) #[] #[]].toArray w (Ret fun r w' => r = .int .i64 (Fm.cmps k k') ∧ Kp w w') := by
  obtain ⟨a, c, rfl, hc⟩ := h.slice
  obtain ⟨a', c', rfl, hc'⟩ := h'.slice
  refine call agree Proofs.Tryz.func106 rfl Proofs.Tryz.ntmps106 (by kernel_rfl) ?_
  refine loop agree (σ := Nat) (fun i => [(0, .slice a k.length c), (1, .slice a' k'.length c'), (2, .func (.func g) #[] #[]), (11, .slice a k.length c), (12, .int .i64 k.length), (13, .int .i64 i)])
    (fun i w' => Kp w w' ∧ i ≤ k.length ∧ i ≤ k'.length ∧ Fm.cmps k k' = Fm.cmps (k.drop i) (k'.drop i)) (fun i => k.length - i) 0 ⟨rfl, rfl, rfl, rfl, rfl, rfl, trivial⟩ ⟨Chg.refl _ _, by omega, by omega, rfl⟩ ?_
  rintro i e0 w1 ⟨hk, hi, hi', hr⟩
  refine sp (fun h1 => ?_) (fun h1 => ?_)
  · have hil : i < k.length := by omega
    have hx := List.getElem?_eq_getElem hil
    generalize k[i] = x at hx
    obtain _ | n := n
    · exact (h.kid0 hx).elim
    obtain ⟨b, o, u, rfl, -, -, hrd, hku⟩ := h.kid hx
    obtain ⟨ua, uc, rfl, -⟩ := hku.slice
    refine ne ⟨by omega, h1⟩ ?_
    refine ld agree (hk.range hrd id) (by rfl) ?_
    refine nd fun m5 w3 e3 e4 k3 hm5 => ?_
    refine st agree hm5 rfl (Nat.le_refl 3) rfl fun w4 e5 k4 hm6 => ?_
    have hm6 : Own w4 m5 _ (fmC x (.slice ua x.kids.length uc)) := hm6
    have hk4 : Kp w w4 := (hk.trans k3).newS k4 (fun j hj => by subst hj; have := hk.size; omega)
    refine sp (fun h2 => ?_) (fun h2 => ?_)
    · refine ⟨congrArg (Value.int .i64) ?_, hk4⟩
      obtain ⟨hxi, rfl⟩ := List.getElem?_eq_some_iff.1 hx
      rw [hr, List.drop_eq_getElem_cons hil, List.drop_eq_nil_of_le (show k'.length ≤ i by omega)]
      rfl
    · have hjl : i < k'.length := by omega
      have hy := List.getElem?_eq_getElem hjl
      generalize k'[i] = y at hy
      obtain ⟨b', o', u', rfl, -, -, hrd', hku'⟩ := h'.kid hy
      obtain ⟨ua', uc', rfl, -⟩ := hku'.slice
      refine ne ⟨by omega, by omega⟩ ?_
      refine ld agree (hk4.range hrd' id) (by rfl) ?_
      refine nd fun m7 w5 e7 e8 k5 hm7 => ?_
      refine st agree hm7 rfl (Nat.le_refl 3) rfl fun w6 e9 k6 hm8 => ?_
      have hm8 : Own w6 m7 _ (fmC y (.slice ua' y.kids.length uc')) := hm8
      have hm9 : Own w6 m5 _ (fmC x (.slice ua x.kids.length uc)) := k6.own (k5.own hm6 id) (fun h => by have := lt_of_heap hm6; omega)
      have hk6 : Kp w w6 := (hk4.trans k5).newS k6 (fun j hj => by subst hj; have := hk4.size; omega)
      refine ld agree (Own.at_ (xs := fmC x _) hm9 rfl) (by rfl) ?_
      refine ld agree (Own.at_ (xs := fmC y _) hm8 rfl) (by rfl) ?_
      refine cl hg (hf n rfl w6 _ x _ y (hku.kp hk6) (hku'.kp hk6) (List.mem_of_getElem? hx) (List.mem_of_getElem? hy)) ?_
      rintro _ w7 ⟨rfl, k7⟩
      have hd := cmps_drop hx hy
      refine sp (fun h3 => ?_) (fun h3 => ?_)
      · exact ⟨congrArg (Value.int .i64) (by rw [hr, hd]; unfold Fm.orI; rw [if_neg h3]), hk6.trans k7⟩
      · refine aw (by omega) (by omega) ?_
        refine again (i + 1) ⟨rfl, rfl, rfl, rfl, rfl, rfl, trivial⟩ ⟨hk6.trans k7, by omega, by omega, ?_⟩ (by omega)
        rw [hr, hd]; unfold Fm.orI; rw [if_pos (by omega)]
  · have hil : i = k.length := by omega
    subst hil
    rw [List.drop_eq_nil_of_le (show k.length ≤ k.length from Nat.le_refl _)] at hr
    refine sp (fun h2 => ?_) (fun h2 => ?_)
    · refine ⟨congrArg (Value.int .i64) ?_, hk⟩
      rw [hr, List.drop_eq_getElem_cons (l := k') (by omega)]
      rfl
    · refine ⟨congrArg (Value.int .i64) ?_, hk⟩
      rw [hr, List.drop_eq_nil_of_le (show k'.length ≤ k.length by omega)]
      rfl
theorem callCmp : callable Proofs.Tryz.prog 37 = true := by kernel_rfl
theorem cmp_orI (f g : Fm) : Fm.cmp f g = Fm.orI (Fm.orI (Fm.sgn3 f.op g.op) (Fm.orI (Fm.cmpL (Fm.bytesI f.name) (Fm.bytesI g.name)) (Fm.sgn3 f.kids.length g.kids.length))) (Fm.cmps f.kids g.kids) := by
  obtain ⟨o, n, k⟩ := f
  obtain ⟨o', n', k'⟩ := g
  rw [Fm.orI_assoc, Fm.orI_assoc]
  rfl
theorem cmp_c : ∀ (n lo hi lo' hi' : Nat) (w : World) (v v' : Value) (f g : Fm), KidsN n lo hi w v f.kids → KidsN n lo' hi' w v' g.kids → f.size < 4611686018427387904 →
    Calls Proofs.Tryz.prog 37 [fmA f v, fmA g v'].toArray w (Ret fun r w' => r = .int .i64 (Fm.cmp f g) ∧ Kp w w') := by
  intro n
  induction n using Nat.strongRecOn with
  | ind n ih =>
    intro lo hi lo' hi' w v v' f g h h' hs
    obtain ⟨a, c, rfl, hc⟩ := h.slice
    obtain ⟨a', c', rfl, hc'⟩ := h'.slice
    have hkl := kids_le f.kids
    have hsz := size_kids f
    refine call agree Proofs.Tryz.func37 rfl Proofs.Tryz.ntmps37 (by kernel_rfl) ?_
    refine nd fun p w1 e1 s1 k1 m1 => ?_
    refine nd fun q w2 e2 s2 k2 m2 => ?_
    have A : ∀ W, Kp w2 W → Own W p 26 (fmC f (.slice a f.kids.length c)) := fun W h => h.heap (k2.heap m1 id) id
    have B : ∀ W, Kp w2 W → Own W q 26 (fmC g (.slice a' g.kids.length c')) := fun W h => h.heap m2 id
    refine drawn0 agree mixed 20 (by kernel_rfl) (fun _ => False) ?_
    conv => whnf
    refine ldk agree rfl rfl (fun W h _ => Own.at_ (xs := [.int .u8 f.op]) (A W h) rfl) (by rfl) fun _ => ?_
    conv => whnf
    refine ldk agree rfl rfl (fun W h _ => Own.at_ (xs := [.int .u8 g.op]) (B W h) rfl) (by rfl) fun _ => ?_
    conv => whnf
    refine callk rfl rfl rfl callCompo (fun W _ _ => compo_c W f.op g.op) fun _ => ?_
    conv => whnf
    refine ldk agree rfl rfl (fun W h _ => Own.at_ (xs := [.string f.name]) (A W h) rfl) (by rfl) fun _ => ?_
    conv => whnf
    refine ldk agree rfl rfl (fun W h _ => Own.at_ (xs := [.string g.name]) (B W h) rfl) (by rfl) fun _ => ?_
    conv => whnf
    refine callk rfl rfl rfl callComps (fun W _ _ => comps_c W f.name g.name) fun _ => ?_
    conv => whnf
    refine ldk agree rfl rfl (fun W h _ => Own.at_ (xs := [.slice a f.kids.length c]) (A W h) rfl) (by rfl) fun _ => ?_
    conv => whnf
    refine ldk agree rfl rfl (fun W h _ => Own.at_ (xs := [.slice a' g.kids.length c']) (B W h) rfl) (by rfl) fun _ => ?_
    conv => whnf
    refine callk rfl rfl rfl callCompi (fun W _ _ => compi_c W f.kids.length g.kids.length) fun _ => ?_
    conv => whnf
    refine bsk rfl rfl rfl rfl (by rfl) (by decide) fun q' D hD => ?_
    conv => whnf
    refine callk rfl rfl rfl callOr (fun W h1 h2 => or_c (xs := [cmp3 f.op g.op, Fm.cmpL (Fm.bytesI f.name) (Fm.bytesI g.name), cmp3 f.kids.length g.kids.length]) (lo := q') (hi := q' + 1) (row1 (hD W (h2 17 (by kernel_rfl))).1 rfl rfl (by decide) (by omega) (by omega)) (by simp)) fun D2 => ?_
    conv => whnf
    intro W hW _
    rw [firstOf3, cmp3_nat, cmp3_nat]
    have hsum := cmp_orI f g
    generalize hz : Fm.orI (Fm.sgn3 f.op g.op) (Fm.orI (Fm.cmpL (Fm.bytesI f.name) (Fm.bytesI g.name)) (Fm.sgn3 f.kids.length g.kids.length)) = z at hsum
    have kW : Kp w W := k1.trans (k2.trans hW)
    refine sp (fun h3 => ?_) (fun h3 => ?_)
    · exact ⟨congrArg (Value.int .i64) (by rw [hsum]; unfold Fm.orI; rw [if_neg h3]), kW⟩
    · refine ld agree (Own.at_ (xs := [.slice a f.kids.length c]) (A W hW) rfl) (by rfl) ?_
      refine ld agree (Own.at_ (xs := [.slice a' g.kids.length c']) (B W hW) rfl) (by rfl) ?_
      refine cl callCmpF (compareF_c (h.kp kW) (h'.kp kW) (by omega) _ callCmp fun m hm W' u x u' y hu hu' hx hy => ih m (by omega) lo hi lo' hi' W' u u' x y hu hu' (by have := Fm.sizes_mem hx; omega)) ?_
      rintro _ w7 ⟨rfl, k7⟩
      exact ⟨congrArg (Value.int .i64) (by rw [hsum]; unfold Fm.orI; rw [if_pos (by omega)]), kW.trans k7⟩
end Go.Au

namespace Go.Au
open Go Go.RowKit

/-! ### what is a formula -/
theorem badB_def (c : UInt8) : Fm.badB c = (decide ((c.toNat : Int) < 32) || decide (126 < (c.toNat : Int)) || decide ((c.toNat : Int) = 34) || decide ((c.toNat : Int) = 92)) := rfl
theorem callFuture : callable Proofs.Tryz.prog 122 = true := by kernel_rfl
theorem future_c (w : World) (o : Nat) : Calls Proofs.Tryz.prog 122 [.int .u8 o].toArray w (Ret fun r w' => r = .bool (Fm.future o) ∧ Kp w w') := by
  refine call agree Proofs.Tryz.func122 rfl Proofs.Tryz.ntmps122 (by kernel_rfl) ?_
  refine sp (fun h => ?_) (fun h => ?_)
  · exact ⟨congrArg Value.bool (by unfold Fm.future; rw [decide_eq_true (by omega)]), Chg.refl _ _⟩
  · exact ⟨congrArg Value.bool (by unfold Fm.future; rw [decide_eq_false (by omega)]), Chg.refl _ _⟩
theorem callTName : callable Proofs.Tryz.prog 188 = true := by kernel_rfl
theorem tname_c (w : World) (s : ByteArray) : Calls Proofs.Tryz.prog 188 [.string s].toArray w (Ret fun r w' => r = .bool (Fm.nameB s) ∧ Kp w w') := by
  refine call agree Proofs.Tryz.func188 rfl Proofs.Tryz.ntmps188 (by kernel_rfl) ?_
  refine sp (fun h => ?_) (fun h => ?_)
  · subst h
    exact ⟨congrArg Value.bool rfl, Chg.refl _ _⟩
  · have hpos : 1 ≤ s.size := by
      rcases Nat.eq_zero_or_pos s.size with h0 | h0
      · exact absurd (by obtain ⟨⟨l⟩⟩ := s; have : l.length = 0 := h0; rw [List.eq_nil_of_length_eq_zero this]) h
      · exact h0
    refine sp (fun h2 => ?_) (fun h2 => ?_)
    · exact ⟨congrArg Value.bool (by unfold Fm.nameB; rw [decide_eq_false (p := s.size ≤ 32) (by omega)]; simp), Chg.refl _ _⟩
    · refine loop agree (σ := Nat) (fun j => [(0, .string s), (13, .int .i64 s.size), (14, .int .i64 j)])
        (fun j w' => w' = w ∧ j ≤ s.size ∧ (s.data.toList.take j).all (fun c => !Fm.badB c) = true) (fun j => s.size - j) 0 ⟨rfl, rfl, rfl, trivial⟩ ⟨rfl, by omega, by simp⟩ ?_
      rintro j e1 w4 ⟨rfl, hj, hja⟩
      refine sp (fun h4 => ?_) (fun h4 => ?_)
      · have hj' : j < s.size := by omega
        have hjt : s.data.toList.take (j + 1) = s.data.toList.take j ++ [s[j]] := by
          rw [List.take_succ_eq_append_getElem (by simpa using hj')]
          rfl
        have badb : Fm.badB s[j] = true → Fm.nameB s = false := fun hb => by
          simp only [Fm.nameB, Bool.and_eq_false_iff]
          refine .inr ?_
          rw [List.all_eq_false]
          exact ⟨s[j], by
            have : s[j] ∈ s.data.toList.take (j + 1) := by rw [hjt]; simp
            exact List.mem_of_mem_take this, by simp [hb]⟩
        refine ixS agree rfl rfl rfl rfl hj' ?_
        refine sp (fun h5 => ?_) (fun h5 => ?_)
        · exact ⟨congrArg Value.bool (badb (by simp [Fm.badB, h5])).symm, Chg.refl _ _⟩
        refine sp (fun h6 => ?_) (fun h6 => ?_)
        · exact ⟨congrArg Value.bool (badb (by simp [Fm.badB, h6])).symm, Chg.refl _ _⟩
        refine sp (fun h7 => ?_) (fun h7 => ?_)
        · exact ⟨congrArg Value.bool (badb (by simp [Fm.badB, h7])).symm, Chg.refl _ _⟩
        refine sp (fun h8 => ?_) (fun h8 => ?_)
        · exact ⟨congrArg Value.bool (badb (by simp [Fm.badB, h8])).symm, Chg.refl _ _⟩
        refine aw (by omega) (by omega) ?_
        refine again (j + 1) ⟨rfl, rfl, rfl, trivial⟩ ⟨rfl, by omega, ?_⟩ (by omega)
        rw [hjt, List.all_append, hja]
        simp [Fm.badB, h5, h6, h7, h8]
      · refine ⟨congrArg Value.bool ?_, Chg.refl _ _⟩
        have hjl : j = s.size := by omega
        subst hjl
        have : s.data.toList.take s.size = s.data.toList := List.take_of_length_le (by simp)
        rw [this] at hja
        unfold Fm.nameB
        rw [hja, decide_eq_true hpos, decide_eq_true (p := s.size ≤ 32) (by omega)]
        rfl
end Go.Au

namespace Go.Au
open Go Go.RowKit

/-! ### formed -/
theorem empty_of {s : ByteArray} (h : s.size = 0) : s = ⟨#[]⟩ := by
  obtain ⟨⟨l⟩⟩ := s
  have : l.length = 0 := h
  rw [List.eq_nil_of_length_eq_zero this]
theorem arE {z z' : Int} {K : Int → Prop} (hz : z = z') (h : K z') : Ar z K := arX hz h
/-- the table of kids lies where the program has it -/
def KTab (w : World) : Prop := ∀ (j : Nat) (v : Int), Fm.kidsTab[j]? = some v → w.rangeAt 2 (0 + j * 1) [.int .i8 v]
theorem KTab.kp {w w' : World} (h : KTab w) (k : Kp w w') : KTab w' := fun j v hv => k.range (h j v hv) id
theorem kidsTab_at {o : Nat} (h : o < 22) : Fm.kidsTab[o]? = some (Fm.kidsTab.getD o (-1)) := by
  rw [List.getD_eq_getElem?_getD, List.getElem?_eq_getElem (show o < Fm.kidsTab.length from h)]
  rfl
theorem kidsTab_range {o : Nat} (h : o < 22) : -1 ≤ Fm.kidsTab.getD o (-1) ∧ Fm.kidsTab.getD o (-1) ≤ 2 := by
  have : ∀ o, o < 22 → -1 ≤ Fm.kidsTab.getD o (-1) ∧ Fm.kidsTab.getD o (-1) ≤ 2 := by decide
  exact this o h
def indexBy (φ : Fm → Bool) : Nat → List Fm → Int
  | _, [] => -1
  | i, x :: r => if φ x then i else indexBy φ (i + 1) r
theorem indexBy_any (φ : Fm → Bool) : ∀ (xs : List Fm) (i : Nat), (0 ≤ indexBy φ i xs) ↔ xs.any φ = true
  | [], i => by simp [indexBy]
  | x :: r, i => by
    simp only [indexBy, List.any_cons]
    cases h : φ x with
    | true => simp
    | false => simpa using indexBy_any φ r (i + 1)
theorem callIndexF : callable Proofs.Tryz.prog 135 = true := by kernel_rfl
theorem indexF_c {n lo hi : Nat} {w : World} {v : Value} {k : List Fm} (h : KidsN n lo hi w v k) (hl : k.length < 4611686018427387904) (g : FuncId) (cap : List Value) (φ : Fm → Bool) (hg : callable Proofs.Tryz.prog g = true)
    (hf : ∀ m, n = m + 1 → ∀ W u x, Kp w W → KidsN m lo hi W u x.kids → x ∈ k → Calls Proofs.Tryz.prog g (fmA x u :: cap).toArray W (Ret fun r w' => r = .bool (φ x) ∧ Kp W w')) :
    Calls Proofs.Tryz.prog 135 [v, .func (.func g) #[] cap.toArray].toArray w (Ret fun r w' => r = .int .i64 (indexBy φ 0 k) ∧ Kp w w') := by
  obtain ⟨a, c, rfl, hc⟩ := h.slice
  refine call agree Proofs.Tryz.func135 rfl Proofs.Tryz.ntmps135 (by kernel_rfl) ?_
  refine loop agree (σ := Nat) (fun i => [(0, .slice a k.length c), (1, .func (.func g) #[] cap.toArray), (7, .int .i64 k.length), (8, .int .i64 i)])
    (fun i w' => Kp w w' ∧ i ≤ k.length ∧ indexBy φ 0 k = indexBy φ i (k.drop i)) (fun i => k.length - i) 0
    ⟨rfl, rfl, rfl, rfl, trivial⟩ ⟨Chg.refl _ _, by omega, by simp⟩ ?_
  rintro i e0 w1 ⟨hk, hi, hr⟩
  refine sp (fun h1 => ?_) (fun h1 => ?_)
  · have hil : i < k.length := by omega
    have hx := List.getElem?_eq_getElem hil
    rw [List.drop_eq_getElem_cons hil] at hr
    generalize k[i] = x at hx hr
    obtain _ | n := n
    · exact (h.kid0 hx).elim
    obtain ⟨b, o, u, rfl, -, -, hrd, hku⟩ := h.kid hx
    refine ne ⟨by omega, h1⟩ ?_
    refine ld agree (hk.range hrd id) (by rfl) ?_
    have hcall := hf n rfl w1 u x hk (hku.kp hk) (List.mem_of_getElem? hx)
    cases hb : φ x with
    | true =>
      rw [hb] at hcall
      refine cl hg hcall ?_
      rintro _ w2 ⟨rfl, k2⟩
      exact ⟨congrArg (Value.int .i64) (by rw [hr]; simp [indexBy, hb]), hk.trans k2⟩
    | false =>
      rw [hb] at hcall
      refine cl hg hcall ?_
      rintro _ w2 ⟨rfl, k2⟩
      refine aw (by omega) (by omega) ?_
      refine again (i + 1) ⟨rfl, rfl, rfl, rfl, trivial⟩ ⟨hk.trans k2, by omega, ?_⟩ (by omega)
      rw [hr]; simp [indexBy, hb]
  · exact ⟨congrArg (Value.int .i64) (by rw [hr, List.drop_eq_nil_of_le (by omega)]; rfl), hk⟩
theorem callContF : callable Proofs.Tryz.prog 189 = true := by kernel_rfl
theorem containsF_c {n lo hi : Nat} {w : World} {v : Value} {k : List Fm} (h : KidsN n lo hi w v k) (hl : k.length < 4611686018427387904) (g : FuncId) (cap : List Value) (φ : Fm → Bool) (hg : callable Proofs.Tryz.prog g = true)
    (hf : ∀ m, n = m + 1 → ∀ W u x, Kp w W → KidsN m lo hi W u x.kids → x ∈ k → Calls Proofs.Tryz.prog g (fmA x u :: cap).toArray W (Ret fun r w' => r = .bool (φ x) ∧ Kp W w')) :
    Calls Proofs.Tryz.prog 189 [v, .func (.func g) #[] cap.toArray].toArray w (Ret fun r w' => r = .bool (k.any φ) ∧ Kp w w') := by
  refine call agree Proofs.Tryz.func189 rfl Proofs.Tryz.ntmps189 (by kernel_rfl) ?_
  refine cl callIndexF (indexF_c h hl g cap φ hg hf) ?_
  rintro _ w1 ⟨rfl, k1⟩
  refine sp (fun h => ?_) (fun h => ?_)
  · exact ⟨congrArg Value.bool ((indexBy_any φ k 0).1 h).symm, k1⟩
  · refine ⟨congrArg Value.bool ?_, k1⟩
    rw [indexBy_any φ k 0] at h
    simpa using h
theorem callFormed : callable Proofs.Tryz.prog 164 = true := by kernel_rfl
theorem callFormed1 : callable Proofs.Tryz.prog 190 = true := by kernel_rfl
theorem formed_kidsEq (t : Nat → Bool) (f : Fm) : Fm.formed t f = (Fm.headOk t f.op f.name f.kids.length && !(f.kids.any fun x => !Fm.formed t x)) := by
  obtain ⟨o, n, k⟩ := f
  simp only [Fm.formed, Fm.formeds_all, Fm.op, Fm.name, Fm.kids]
  congr 1
  rw [List.not_any_eq_all_not]
  simp
theorem formed_c (tk : FuncId) (takes : Nat → Bool) (htk : callable Proofs.Tryz.prog tk = true) (htc : ∀ W o, Calls Proofs.Tryz.prog tk [.int .u8 (o : Nat)].toArray W (Ret fun r w' => r = .bool (takes o) ∧ Kp W w')) : ∀ (n lo hi : Nat) (w : World) (v : Value) (f : Fm), KTab w → KidsN n lo hi w v f.kids → f.size < 4611686018427387904 → (∀ x ∈ f.all, x.op < 256) →
    Calls Proofs.Tryz.prog 164 [fmA f v, .func (.func tk) #[] #[]].toArray w (Ret fun r w' => r = .bool (Fm.formed takes f) ∧ Kp w w') := by
  intro n
  induction n using Nat.strongRecOn with
  | ind n ih =>
    intro lo hi w v f hT h hs hop
    have hop1 := hop f (Fm.self_all f)
    obtain ⟨a, c, rfl, hc⟩ := h.slice
    have hkl := kids_le f.kids
    have hsz := size_kids f
    have hfe := formed_kidsEq takes f
    refine call agree Proofs.Tryz.func164 rfl Proofs.Tryz.ntmps164 (by kernel_rfl) ?_
    refine nd fun p w1 e1 s1 k1 m1 => ?_
    refine nd fun q w2 e2 s2 k2 m2 => ?_
    have A : ∀ W, Kp w2 W → Own W p 26 (fmC f (.slice a f.kids.length c)) := fun W h => h.heap (k2.heap m1 id) id
    have B : ∀ W, Kp w2 W → Own W q 179 [.func (.func tk) #[] #[]] := fun W h => h.heap m2 id
    have kW0 : Kp w w2 := k1.trans k2
    have hcl : ∀ W0, Kp w2 W0 → ∀ m, n = m + 1 → ∀ W u x, Kp W0 W → KidsN m lo hi W u x.kids → x ∈ f.kids → Calls Proofs.Tryz.prog 190 (fmA x u :: [pt q 0]).toArray W (Ret fun r w' => r = .bool (!Fm.formed takes x) ∧ Kp W w') := by
      intro W0 hW0 m hm W u x hk hu hx
      obtain ⟨ua, uc, rfl, -⟩ := hu.slice
      refine call agree Proofs.Tryz.func190 rfl Proofs.Tryz.ntmps190 (by kernel_rfl) ?_
      refine nd fun p3 w3 e3 s3 k3 m3 => ?_
      have m3 : Own w3 p3 26 (fmC x (.slice ua x.kids.length uc)) := m3
      refine ld agree (Own.at_ (xs := fmC x (.slice ua x.kids.length uc)) m3 rfl) (by rfl) ?_
      refine ld agree (Own.at_ (xs := [.func (.func tk) #[] #[]]) (B w3 ((hW0.trans hk).trans k3)) rfl) (by rfl) ?_
      have hsx := Fm.sizes_mem hx
      refine cl callFormed (ih m (by omega) lo hi w3 _ x (hT.kp ((kW0.trans (hW0.trans hk)).trans k3)) (hu.kp k3) (by omega) (fun y hy => hop y (Fm.mem_all.2 (.inr ⟨x, hx, hy⟩)))) ?_
      rintro _ w4 ⟨rfl, k4⟩
      exact ⟨rfl, k3.trans k4⟩
    refine drawn0 agree mixed 29 (by kernel_rfl) (fun _ => False) ?_
    conv => whnf
    refine ldk agree rfl rfl (fun W h _ => Own.at_ (xs := [.int .u8 f.op]) (A W h) rfl) (by rfl) fun _ => ?_
    conv => whnf
    refine arE (z' := f.op) (wrap64 (by omega) (by omega)) ?_
    conv => whnf
    refine sp (fun h1 => ?_) (fun h1 => ?_)
    · conv => whnf
      intro W hW _
      have hbad : Fm.formed takes f = false := by rw [hfe]; unfold Fm.headOk; rw [decide_eq_false (p := f.op < 22) (by omega)]; rfl
      exact ⟨congrArg Value.bool hbad.symm, kW0.trans hW⟩
    have ho : f.op < 22 := by omega
    have hkt := kidsTab_at ho
    have hkr := kidsTab_range ho
    generalize hv : Fm.kidsTab.getD f.op (-1) = kv at hkt hkr
    conv => whnf
    refine ldk agree rfl rfl (fun W h _ => Own.at_ (xs := [.int .u8 f.op]) (A W h) rfl) (by rfl) fun _ => ?_
    conv => whnf
    refine ixArr agree rfl rfl rfl rfl rfl rfl ho ?_
    conv => whnf
    refine ldk agree rfl rfl (fun W h _ => (hT.kp (kW0.trans h)) _ _ hkt) (by rfl) fun _ => ?_
    conv => whnf
    refine sp (fun h2 => ?_) (fun h2 => ?_)
    · conv => whnf
      intro W hW _
      have hbad : Fm.formed takes f = false := by rw [hfe]; unfold Fm.headOk; rw [hv, decide_eq_false (p := 0 ≤ kv) (by omega)]; simp
      exact ⟨congrArg Value.bool hbad.symm, kW0.trans hW⟩
    conv => whnf
    refine ldk agree rfl rfl (fun W h _ => Own.at_ (xs := [.slice a f.kids.length c]) (A W h) rfl) (by rfl) fun _ => ?_
    conv => whnf
    refine ldk agree rfl rfl (fun W h _ => Own.at_ (xs := [.int .u8 f.op]) (A W h) rfl) (by rfl) fun _ => ?_
    conv => whnf
    refine ixArr agree rfl rfl rfl rfl rfl rfl ho ?_
    conv => whnf
    refine ldk agree rfl rfl (fun W h _ => (hT.kp (kW0.trans h)) _ _ hkt) (by rfl) fun _ => ?_
    conv => whnf
    refine arE (z' := kv) (wrap64 (by omega) (by omega)) ?_
    conv => whnf
    refine sp (fun h3 => ?_) (fun h3 => ?_)
    · conv => whnf
      intro W hW _
      have hbad : Fm.formed takes f = false := by rw [hfe]; unfold Fm.headOk; rw [hv, decide_eq_false (p := (f.kids.length : Int) = kv) (by omega)]; simp
      exact ⟨congrArg Value.bool hbad.symm, kW0.trans hW⟩
    conv => whnf
    refine ldk agree rfl rfl (fun W h _ => Own.at_ (xs := [.func (.func tk) #[] #[]]) (B W h) rfl) (by rfl) fun _ => ?_
    conv => whnf
    refine ldk agree rfl rfl (fun W h _ => Own.at_ (xs := [.int .u8 f.op]) (A W h) rfl) (by rfl) fun _ => ?_
    conv => whnf
    refine callk rfl rfl rfl htk (fun W _ _ => htc W f.op) fun _ => ?_
    cases htko : takes f.op with
    | false =>
      conv => whnf
      intro W hW _
      have hbad : Fm.formed takes f = false := by rw [hfe]; unfold Fm.headOk; rw [htko]; simp
      exact ⟨congrArg Value.bool hbad.symm, kW0.trans hW⟩
    | true =>
      conv => whnf
      intro W hW _
      have kW := kW0.trans hW
      have AW := A W hW
      have BW := B W hW
      have hhead : Fm.headOk takes f.op f.name f.kids.length = Fm.nmOk f.op f.name := by
        unfold Fm.headOk
        rw [hv, htko, decide_eq_true ho, decide_eq_true (p := 0 ≤ kv) (by omega), decide_eq_true (p := (f.kids.length : Int) = kv) (by omega)]
        simp
      refine ld agree (Own.at_ (xs := [.int .u8 f.op]) AW rfl) (by rfl) ?_
      refine sp (fun h4 => ?_) (fun h4 => ?_)
      · have h4' : f.op = 3 := by omega
        refine ld agree (Own.at_ (xs := [.string f.name]) AW rfl) (by rfl) ?_
        have hcall := tname_c W f.name
        cases hnb : Fm.nameB f.name with
        | false =>
          rw [hnb] at hcall
          refine cl callTName hcall ?_
          rintro _ w6 ⟨rfl, k6⟩
          exact ⟨congrArg Value.bool (by rw [hfe, hhead]; unfold Fm.nmOk; rw [if_pos h4', hnb]; rfl), kW.trans k6⟩
        | true =>
          rw [hnb] at hcall
          refine cl callTName hcall ?_
          rintro _ w6 ⟨rfl, k6⟩
          have hnm : Fm.nmOk f.op f.name = true := by unfold Fm.nmOk; rw [if_pos h4', hnb]
          replace kW := kW.trans k6
          replace AW : Own w6 p 26 (fmC f (.slice a f.kids.length c)) := k6.own AW id
          replace hW := hW.trans k6
          refine ld agree (Own.at_ (xs := [.int .u8 f.op]) AW rfl) (by rfl) ?_
          refine spF (fun hh => hh h4) ?_
          refine ld agree (Own.at_ (xs := [.slice a f.kids.length c]) AW rfl) (by rfl) ?_
          refine cl callContF (containsF_c (φ := fun x => !Fm.formed takes x) (cap := [pt q 0]) (h.kp kW) (by omega) _ callFormed1 (hcl w6 hW)) ?_
          rintro _ w7 ⟨rfl, k7⟩
          exact ⟨congrArg Value.bool (by rw [hfe, hhead, hnm]; rfl), kW.trans k7⟩
      · have h4' : ¬ f.op = 3 := by omega
        refine ld agree (Own.at_ (xs := [.int .u8 f.op]) AW rfl) (by rfl) ?_
        refine spT h4 ?_
        refine ld agree (Own.at_ (xs := [.string f.name]) AW rfl) (by rfl) ?_
        refine sp (fun h5 => ?_) (fun h5 => ?_)
        · refine ⟨congrArg Value.bool ?_, kW⟩
          rw [hfe, hhead]
          unfold Fm.nmOk
          rw [if_neg h4', decide_eq_false]
          · rfl
          · exact fun h0 => h5 (empty_of h0)
        have h5' : f.name = ⟨#[]⟩ := Classical.byContradiction h5
        have hnm : Fm.nmOk f.op f.name = true := by unfold Fm.nmOk; rw [if_neg h4', h5']; rfl
        refine ld agree (Own.at_ (xs := [.slice a f.kids.length c]) AW rfl) (by rfl) ?_
        refine cl callContF (containsF_c (φ := fun x => !Fm.formed takes x) (cap := [pt q 0]) (h.kp kW) (by omega) _ callFormed1 (hcl W hW)) ?_
        rintro _ w7 ⟨rfl, k7⟩
        exact ⟨congrArg Value.bool (by rw [hfe, hhead, hnm]; rfl), kW.trans k7⟩
end Go.Au

namespace Go.Au
open Go

/-! ### a formula's nodes, plain: sets are numbers, by their bits -/
structure TRow where
  op : Nat
  a : Int
  b : Int
  neg : Int
structure Part where
  old : Nat
  due : Nat
  todo : Nat
namespace Tb
open Fm (idx)
def putS (s i : Nat) : Nat := s ||| 2 ^ i
def cutS (s i : Nat) : Nat := s ^^^ (s &&& 2 ^ i)
theorem putS_bit (s i j : Nat) : (putS s i).testBit j = (s.testBit j || decide (i = j)) := by
  simp [putS, Nat.testBit_or, Nat.testBit_two_pow]
theorem cutS_bit (s i j : Nat) : (cutS s i).testBit j = (s.testBit j && !decide (i = j)) := by
  simp only [cutS, Nat.testBit_xor, Nat.testBit_and, Nat.testBit_two_pow]
  by_cases h : i = j <;> cases s.testBit j <;> simp [h]

/-! #### rows -/
def kidP (subs : List Fm) (k : List Fm) (n : Nat) : Int := match k[n]? with | some c => idx subs c | none => 0
def row0 (subs : List Fm) (f : Fm) : TRow := ⟨f.op, kidP subs f.kids 0, kidP subs f.kids 1, -1⟩
def setNeg (rs : List TRow) (i : Nat) (v : Int) : List TRow := match rs[i]? with | some r => rs.set i { r with neg := v } | none => rs
def negStep (rs : List TRow) (i : Nat) : List TRow := match rs[i]? with
  | some r => if r.op = 4 then setNeg (setNeg rs i r.a) r.a.toNat i else rs
  | none => rs
def negs : Nat → List TRow → List TRow
  | 0, rs => rs
  | i + 1, rs => negStep (negs i rs) i
def rows (subs : List Fm) : List TRow := negs subs.length (subs.map (row0 subs))
theorem setNeg_len (rs : List TRow) (i : Nat) (v : Int) : (setNeg rs i v).length = rs.length := by unfold setNeg; split <;> simp
theorem negStep_len (rs : List TRow) (i : Nat) : (negStep rs i).length = rs.length := by
  unfold negStep
  split
  · split
    · rw [setNeg_len, setNeg_len]
    · rfl
  · rfl
theorem negs_len : ∀ (i : Nat) (rs : List TRow), (negs i rs).length = rs.length
  | 0, _ => rfl
  | i + 1, rs => by simp only [negs]; rw [negStep_len, negs_len i]
theorem rows_len (subs : List Fm) : (rows subs).length = subs.length := by unfold rows; rw [negs_len]; simp
/-- all but what a negation is -/
def Same (r s : TRow) : Prop := r.op = s.op ∧ r.a = s.a ∧ r.b = s.b
theorem setNeg_at {rs : List TRow} {i j : Nat} {v : Int} {r : TRow} (h : (setNeg rs i v)[j]? = some r) : ∃ s, rs[j]? = some s ∧ Same r s := by
  unfold setNeg at h
  split at h
  · rename_i q hq
    rw [List.getElem?_set] at h
    split at h
    · rename_i hij
      split at h
      · injection h with h
        subst hij
        exact ⟨q, hq, by rw [← h]; exact ⟨rfl, rfl, rfl⟩⟩
      · cases h
    · exact ⟨r, h, rfl, rfl, rfl⟩
  · exact ⟨r, h, rfl, rfl, rfl⟩
theorem Same.trans {r s t : TRow} (h : Same r s) (k : Same s t) : Same r t := ⟨h.1.trans k.1, h.2.1.trans k.2.1, h.2.2.trans k.2.2⟩
theorem negStep_at {rs : List TRow} {i j : Nat} {r : TRow} (h : (negStep rs i)[j]? = some r) : ∃ s, rs[j]? = some s ∧ Same r s := by
  unfold negStep at h
  split at h
  · split at h
    · obtain ⟨s, h1, h2⟩ := setNeg_at h
      obtain ⟨t, h3, h4⟩ := setNeg_at h1
      exact ⟨t, h3, h2.trans h4⟩
    · exact ⟨r, h, rfl, rfl, rfl⟩
  · exact ⟨r, h, rfl, rfl, rfl⟩
theorem negs_at : ∀ {i : Nat} {rs : List TRow} {j : Nat} {r : TRow}, (negs i rs)[j]? = some r → ∃ s, rs[j]? = some s ∧ Same r s
  | 0, _, _, r, h => ⟨r, h, rfl, rfl, rfl⟩
  | i + 1, rs, j, r, h => by
    obtain ⟨s, h1, h2⟩ := negStep_at h
    obtain ⟨t, h3, h4⟩ := negs_at h1
    exact ⟨t, h3, h2.trans h4⟩
theorem rows_at {subs : List Fm} {j : Nat} {r : TRow} (h : (rows subs)[j]? = some r) : ∃ f, subs[j]? = some f ∧ r.op = f.op ∧ r.a = kidP subs f.kids 0 ∧ r.b = kidP subs f.kids 1 := by
  obtain ⟨s, h1, h2⟩ := negs_at h
  rw [List.getElem?_map] at h1
  cases hf : subs[j]? with
  | none => rw [hf] at h1; cases h1
  | some f =>
    rw [hf] at h1
    injection h1 with h1
    subst h1
    exact ⟨f, rfl, h2⟩

/-! #### sides, runs -/
def sides (r : TRow) (i : Nat) (p : Part) : List Part :=
  match r.op with
  | 2 => []
  | 3 | 4 => if 0 ≤ r.neg ∧ p.old.testBit r.neg.toNat = true then [] else [p]
  | 5 => [⟨p.old, p.due, putS (putS p.todo r.a.toNat) r.b.toNat⟩]
  | 6 => [⟨p.old, p.due, putS p.todo r.a.toNat⟩, ⟨p.old, p.due, putS p.todo r.b.toNat⟩]
  | 9 => [⟨p.old, putS p.due r.a.toNat, p.todo⟩]
  | 12 => [⟨p.old, p.due, putS p.todo r.b.toNat⟩, ⟨p.old, putS p.due i, putS p.todo r.a.toNat⟩]
  | 13 => [⟨p.old, p.due, putS (putS p.todo r.a.toNat) r.b.toNat⟩, ⟨p.old, putS p.due i, putS p.todo r.b.toNat⟩]
  | _ => [p]
abbrev Node := Nat × Nat
/-- what comes of a part by the formula at i, which waits in it -/
def step (rs : List TRow) (i : Nat) (p : Part) : List Part :=
  if p.old.testBit i = true then [⟨p.old, p.due, cutS p.todo i⟩]
  else match rs[i]? with
    | some r => sides r i ⟨putS p.old i, p.due, cutS p.todo i⟩
    | none => []
def run (rs : List TRow) : Nat → Part → List Node
  | 0, p => [(p.old, p.due)]
  | i + 1, p => if p.todo.testBit i = true then (step rs i p).flatMap (run rs i) else run rs i p
def ltN (p q : Node) : Bool := decide (p.1 < q.1) || (decide (p.1 = q.1) && decide (p.2 < q.2))
def insN (x : Node) : List Node → List Node
  | [] => [x]
  | y :: r => if ltN x y = true then x :: y :: r else if x = y then y :: r else y :: insN x r
/-- the pairs that fit a set, in order -/
def fits (rs : List TRow) (s : Nat) : List Node := (run rs rs.length ⟨0, 0, s⟩).foldr insN []

/-! #### all nodes -/
def insI (x : Nat) : List Nat → List Nat
  | [] => [x]
  | y :: r => if x ≤ y then x :: y :: r else y :: insI x r
def isort (l : List Nat) : List Nat := l.foldr insI []
def add1 (st : List Node × List Nat) (p : Node) : List Node × List Nat :=
  if idx st.1 p < 0 then (st.1 ++ [p], st.2 ++ [st.1.length]) else (st.1, st.2 ++ [(idx st.1 p).toNat])
def addN (nodes : List Node) (l : List Node) : List Node × List Nat := l.foldl add1 (nodes, [])
structure GS where
  nodes : List Node
  next : List (List Nat)
def gstep (rs : List TRow) (s : GS) : GS := match s.nodes[s.next.length]? with
  | none => s
  | some p => ⟨(addN s.nodes (fits rs p.2)).1, s.next ++ [isort (addN s.nodes (fits rs p.2)).2]⟩
def start (rs : List TRow) (s : Nat) : GS := ⟨(addN [] (fits rs s)).1, []⟩
def inits (rs : List TRow) (s : Nat) : List Nat := isort (addN [] (fits rs s)).2
def giter (rs : List TRow) : Nat → GS → GS
  | 0, s => s
  | k + 1, s => giter rs k (gstep rs s)
def over (most : Int) (l : List Node) : Bool := !l.isEmpty && decide (most < l.length)
/-- the loop of all nodes, so many rounds at most -/
def gloop (rs : List TRow) (most : Int) : Nat → GS → Option GS
  | 0, _ => none
  | k + 1, s => match s.nodes[s.next.length]? with
    | none => if (s.nodes.length : Int) ≤ most then some s else none
    | some p => if (s.nodes.length : Int) ≤ most then (if over most (fits rs p.2) = true then none else gloop rs most k (gstep rs s)) else none
/-- Tableau: what there is -/
structure Tab where
  subs : List Fm
  rows : List TRow
  names : List ByteArray
  nodes : List Node
  init : List Nat
  next : List (List Nat)
def whole (subs : List Fm) : Nat := putS 0 (subs.length - 1)
def ofT (f : Fm) (names : List ByteArray) (most : Int) : Option Tab :=
  let rs := rows f.subs
  let s := whole f.subs
  if over most (fits rs s) = true then none
  else match gloop rs most (most.toNat + 2) (start rs s) with
    | none => none
    | some g => some ⟨f.subs, rs, names, g.nodes, inits rs s, g.next⟩
def nameOk (names : List ByteArray) : Bool := decide (names.length ≤ 8) && decide names.Nodup && names.all Fm.nameB
def overNames (f : Fm) (names : List ByteArray) : Bool := (Fm.names f).all fun s => decide (0 ≤ idx names s)
def errOf (f : Fm) (names : List ByteArray) (most : Int) : Int :=
  if (f.right && f.isN) = false then 90 else if (nameOk names && overNames f names) = false then 91 else if ofT f names most = none then 92 else 0
/-! #### the example -/
def b1 (c : UInt8) : ByteArray := ⟨#[c]⟩
def exU : Fm := .mk 12 ⟨#[]⟩ [.mk 3 (b1 112) [], .mk 3 (b1 113) []]
end Tb
end Go.Au

namespace Go.Au
open Go

/-! ### sets as sixteen words -/
/-- what a set is below -/
def capN (n : Nat) : Nat := 2 ^ (64 * n)
abbrev cap : Nat := capN 16
theorem capN_lt {s n : Nat} : s < capN n ↔ s < 2 ^ (64 * n) := Iff.rfl
theorem capN_bit {s j n : Nat} (h : s < capN n) (hj : 64 * n ≤ j) : s.testBit j = false :=
  Nat.testBit_lt_two_pow (Nat.lt_of_lt_of_le h (Nat.pow_le_pow_right (by decide) hj))
theorem cap_bit {s j : Nat} (h : s < cap) (hj : 64 * 16 ≤ j) : s.testBit j = false := capN_bit h hj
theorem capN_le {s n m : Nat} (h : s < 2 ^ (64 * n)) (hm : n ≤ m) : s < capN m := Nat.lt_of_lt_of_le h (Nat.pow_le_pow_right (by decide) (by omega))
def wordN (s k : Nat) : Nat := if k = 15 then s >>> 960 else (s >>> (64 * k)) % 2 ^ 64
def setC (s : Nat) : List Value := (List.range 16).map fun k => .int .u64 (wordN s k : Nat)
theorem setC_len (s : Nat) : (setC s).length = 16 := by simp [setC]
theorem wordN_eq {s : Nat} (h : s < cap) (k : Nat) (hk : k < 16) : wordN s k = (s >>> (64 * k)) % 2 ^ 64 := by
  unfold wordN
  split
  · rename_i hk
    subst hk
    refine (Nat.mod_eq_of_lt ?_).symm
    refine Nat.lt_pow_two_of_testBit _ fun j hj => ?_
    rw [Nat.testBit_shiftRight]
    exact cap_bit h (by omega)
  · rfl
theorem wordN_lt {s : Nat} (h : s < cap) (k : Nat) (hk : k < 16) : wordN s k < 18446744073709551616 := by
  rw [wordN_eq h k hk]
  exact Nat.mod_lt _ (by decide)
theorem wordN_bit {s : Nat} (h : s < cap) (k j : Nat) (hk : k < 16) : (wordN s k).testBit j = (decide (j < 64) && s.testBit (64 * k + j)) := by
  rw [wordN_eq h k hk, Nat.testBit_mod_two_pow, Nat.testBit_shiftRight]
theorem setC_get (s k : Nat) (hk : k < 16) : (setC s)[k]? = some (.int .u64 (wordN s k : Nat)) := by
  simp [setC, hk]
theorem word_inj {s t : Nat} (h : ∀ k, k < 16 → wordN s k = wordN t k) : s = t := by
  apply Nat.eq_of_testBit_eq
  intro i
  by_cases hi : i < 960
  · have h1 := h (i / 64) (by omega)
    have hk : i / 64 ≠ 15 := by omega
    simp only [wordN, if_neg hk] at h1
    have h2 := congrArg (fun x => x.testBit (i % 64)) h1
    simp only [Nat.testBit_mod_two_pow, Nat.testBit_shiftRight] at h2
    rw [show 64 * (i / 64) + i % 64 = i by omega] at h2
    simpa [Nat.mod_lt] using h2
  · have h1 := h 15 (by omega)
    simp only [wordN, if_true] at h1
    have h2 := congrArg (fun x => x.testBit (i - 960)) h1
    simp only [Nat.testBit_shiftRight] at h2
    rw [show 960 + (i - 960) = i by omega] at h2
    exact h2
theorem setC_inj {s t : Nat} (h : setC s = setC t) : s = t := word_inj fun k hk => by
  have h1 := setC_get s k hk
  rw [h, setC_get t k hk] at h1
  injection h1 with h1
  injection h1 with _ h1
  exact (Int.ofNat.inj h1).symm
/-- a set is the words it has -/
theorem setC_of {s : Nat} (hs : s < cap) {cs : List Value} (hl : cs.length = 16) (h : ∀ k, k < 16 → ∃ x : Nat, cs[k]? = some (.int .u64 (x : Int)) ∧ x < 18446744073709551616 ∧ ∀ j, j < 64 → x.testBit j = s.testBit (64 * k + j)) : cs = setC s := by
  apply List.ext_getElem?
  intro k
  by_cases hk : k < 16
  · obtain ⟨x, h1, h2, h3⟩ := h k hk
    rw [h1, setC_get s k hk]
    congr 3
    apply Nat.eq_of_testBit_eq
    intro j
    rw [wordN_bit hs k j hk]
    by_cases hj : j < 64
    · simp [hj, h3 j hj]
    · simp only [hj, decide_false, Bool.false_and]
      exact Nat.testBit_lt_two_pow (Nat.lt_of_lt_of_le h2 (Nat.le_trans (by decide : 18446744073709551616 ≤ 2 ^ 64) (Nat.pow_le_pow_right (by decide) (by omega))))
  · rw [List.getElem?_eq_none (by omega), List.getElem?_eq_none (by rw [setC_len]; omega)]
namespace Tb
theorem putS_lt {s i n : Nat} (h : s < 2 ^ n) (hi : i < n) : putS s i < 2 ^ n := by
  unfold putS
  exact Nat.or_lt_two_pow h (Nat.pow_lt_pow_right (by decide) hi)
theorem cutS_le (s i : Nat) : cutS s i ≤ s := by
  have h : s &&& cutS s i = cutS s i := by
    apply Nat.eq_of_testBit_eq
    intro j
    rw [Nat.testBit_and, cutS_bit]
    cases s.testBit j <;> simp
  rw [← h]
  exact Nat.and_le_left
theorem lt_of_bits {s n : Nat} (h : ∀ j, n ≤ j → s.testBit j = false) : s < 2 ^ n := Nat.lt_pow_two_of_testBit s h
theorem cutS_lt {s i : Nat} (h : s < 2 ^ (i + 1)) : cutS s i < 2 ^ i := lt_of_bits fun j hj => by
  rw [cutS_bit]
  by_cases he : i = j
  · simp [he]
  · simp [he, Nat.testBit_lt_two_pow (Nat.lt_of_lt_of_le h (Nat.pow_le_pow_right (by decide) (by omega : i + 1 ≤ j)))]
/-- rows whose kids stand ahead of them -/
def WfR (rs : List TRow) : Prop := ∀ (i : Nat) r, rs[i]? = some r → r.op ≠ 0 ∧
  ((r.op = 5 ∨ r.op = 6 ∨ r.op = 12 ∨ r.op = 13) → 0 ≤ r.a ∧ r.a < i ∧ 0 ≤ r.b ∧ r.b < i) ∧ (r.op = 9 → 0 ≤ r.a ∧ r.a < i) ∧ r.neg < rs.length
structure PartOk (n k : Nat) (p : Part) : Prop where
  old : p.old < 2 ^ n
  due : p.due < 2 ^ n
  todo : p.todo < 2 ^ k
theorem sides_ok {rs : List TRow} (hw : WfR rs) {i : Nat} {r : TRow} (hr : rs[i]? = some r) {n : Nat} (hn : rs.length ≤ n) {p : Part} (hp : PartOk n i p) : ∀ q ∈ sides r i p, PartOk n i q := by
  obtain ⟨-, h2, h3, -⟩ := hw i r hr
  have hi : i < rs.length := (List.getElem?_eq_some_iff.1 hr).1
  intro q hq
  unfold sides at hq
  split at hq
  · cases hq
  · split at hq
    · cases hq
    · simp only [List.mem_singleton] at hq; exact hq ▸ hp
  · split at hq
    · cases hq
    · simp only [List.mem_singleton] at hq; exact hq ▸ hp
  · rename_i ho
    have := h2 (.inl ho)
    simp only [List.mem_singleton] at hq; subst hq
    exact ⟨hp.old, hp.due, putS_lt (putS_lt hp.todo (by omega)) (by omega)⟩
  · rename_i ho
    have := h2 (.inr (.inl ho))
    simp only [List.mem_cons, List.not_mem_nil, or_false] at hq
    rcases hq with rfl | rfl
    · exact ⟨hp.old, hp.due, putS_lt hp.todo (by omega)⟩
    · exact ⟨hp.old, hp.due, putS_lt hp.todo (by omega)⟩
  · rename_i ho
    have := h3 ho
    simp only [List.mem_singleton] at hq; subst hq
    exact ⟨hp.old, putS_lt hp.due (by omega), hp.todo⟩
  · rename_i ho
    have := h2 (.inr (.inr (.inl ho)))
    simp only [List.mem_cons, List.not_mem_nil, or_false] at hq
    rcases hq with rfl | rfl
    · exact ⟨hp.old, hp.due, putS_lt hp.todo (by omega)⟩
    · exact ⟨hp.old, putS_lt hp.due (by omega), putS_lt hp.todo (by omega)⟩
  · rename_i ho
    have := h2 (.inr (.inr (.inr ho)))
    simp only [List.mem_cons, List.not_mem_nil, or_false] at hq
    rcases hq with rfl | rfl
    · exact ⟨hp.old, hp.due, putS_lt (putS_lt hp.todo (by omega)) (by omega)⟩
    · exact ⟨hp.old, putS_lt hp.due (by omega), putS_lt hp.todo (by omega)⟩
  · simp only [List.mem_singleton] at hq; exact hq ▸ hp
theorem step_ok {rs : List TRow} (hw : WfR rs) {i n : Nat} (hi : i < rs.length) (hn : rs.length ≤ n) {p : Part} (hp : PartOk n (i + 1) p) : ∀ q ∈ step rs i p, PartOk n i q := by
  intro q hq
  unfold step at hq
  split at hq
  · simp only [List.mem_singleton] at hq; subst hq
    exact ⟨hp.old, hp.due, cutS_lt hp.todo⟩
  · rw [List.getElem?_eq_getElem hi] at hq
    exact sides_ok hw (List.getElem?_eq_getElem hi) hn (p := ⟨putS p.old i, p.due, cutS p.todo i⟩) ⟨putS_lt hp.old (by omega), hp.due, cutS_lt hp.todo⟩ q hq
theorem run_skip (rs : List TRow) {p : Part} {k : Nat} (h : p.todo < 2 ^ k) : ∀ m, k ≤ m → run rs m p = run rs k p
  | 0, hm => by rw [show k = 0 by omega]
  | m + 1, hm => by
    rcases Nat.lt_or_ge m k with h1 | h1
    · rw [show k = m + 1 by omega]
    · simp only [run]
      rw [if_neg (by rw [Nat.testBit_lt_two_pow (Nat.lt_of_lt_of_le h (Nat.pow_le_pow_right (by decide) h1))]; decide), run_skip rs h m h1]
/-- what comes of a part whose greatest one is i -/
theorem run_last {rs : List TRow} (hw : WfR rs) {i n : Nat} {p : Part} (hi : i < rs.length) (hp : p.todo < 2 ^ (i + 1)) (hb : p.todo.testBit i = true) (hn : i < n) :
    run rs n p = (step rs i p).flatMap (run rs n) := by
  rw [run_skip rs hp n (by omega)]
  simp only [run, hb, if_true]
  rw [List.flatMap_def, List.flatMap_def]
  congr 1
  apply List.map_congr_left
  intro q hq
  have hq' : q.todo < 2 ^ i := by
    unfold step at hq
    split at hq
    · simp only [List.mem_singleton] at hq; subst hq; exact cutS_lt hp
    · rw [List.getElem?_eq_getElem hi] at hq
      have hle : ∀ (m : Nat), p.old < 2 ^ m → p.due < 2 ^ m → i < m → rs.length ≤ m → q.todo < 2 ^ i := fun m h1 h2 h3 h4 =>
        (sides_ok hw (List.getElem?_eq_getElem hi) h4 (p := ⟨putS p.old i, p.due, cutS p.todo i⟩) ⟨putS_lt h1 h3, h2, cutS_lt hp⟩ q hq).todo
      refine hle (p.old + p.due + i + rs.length + 1) ?_ ?_ (by omega) (by omega)
      · exact Nat.lt_of_lt_of_le (Nat.lt_two_pow_self) (Nat.pow_le_pow_right (by decide) (by omega))
      · exact Nat.lt_of_lt_of_le (Nat.lt_two_pow_self) (Nat.pow_le_pow_right (by decide) (by omega))
  exact (run_skip rs hq' n (by omega)).symm
theorem run_zero (rs : List TRow) {p : Part} (h : p.todo = 0) (n : Nat) : run rs n p = [(p.old, p.due)] := by
  rw [run_skip rs (k := 0) (by rw [h]; decide) n (by omega)]
  rfl
theorem run_ok {rs : List TRow} (hw : WfR rs) {n : Nat} (hn : rs.length ≤ n) : ∀ (k : Nat) {p : Part}, k ≤ rs.length → PartOk n k p → ∀ x ∈ run rs k p, x.1 < 2 ^ n ∧ x.2 < 2 ^ n
  | 0, p, _, hp, x, hx => by
    simp only [run, List.mem_singleton] at hx
    subst hx
    exact ⟨hp.old, hp.due⟩
  | k + 1, p, hk, hp, x, hx => by
    simp only [run] at hx
    split at hx
    · obtain ⟨q, hq, hx⟩ := List.mem_flatMap.1 hx
      exact run_ok hw hn k (by omega) (step_ok hw (by omega) hn hp q hq) x hx
    · rename_i hb
      refine run_ok hw hn k (by omega) ⟨hp.old, hp.due, ?_⟩ x hx
      refine lt_of_bits fun j hj => ?_
      by_cases he : j = k
      · subst he; simpa using hb
      · exact Nat.testBit_lt_two_pow (Nat.lt_of_lt_of_le hp.todo (Nat.pow_le_pow_right (by decide) (by omega)))

/-! ### pairs in order -/
theorem ltN_iff {p q : Node} : ltN p q = true ↔ p.1 < q.1 ∨ p.1 = q.1 ∧ p.2 < q.2 := by simp [ltN]
theorem ltN_irr (p : Node) : ltN p p = false := by simp [ltN]
theorem ltN_trans {p q r : Node} (h1 : ltN p q = true) (h2 : ltN q r = true) : ltN p r = true := by
  rw [ltN_iff] at *
  omega
theorem ltN_or {p q : Node} (h1 : ltN p q = false) (h2 : p ≠ q) : ltN q p = true := by
  rw [← Bool.not_eq_true, ltN_iff] at h1
  rw [ltN_iff]
  have : ¬ (p.1 = q.1 ∧ p.2 = q.2) := fun h => h2 (Prod.ext h.1 h.2)
  omega
def SortedN (l : List Node) : Prop := l.Pairwise fun a b => ltN a b = true
theorem mem_insN {x z : Node} : ∀ {l : List Node}, z ∈ insN x l ↔ z = x ∨ z ∈ l
  | [] => by simp [insN]
  | y :: r => by
    simp only [insN]
    split
    · simp
    · split
      · subst_vars; simp
      · simp [mem_insN (l := r)]
        exact ⟨fun h => by rcases h with h | h | h <;> simp [h], fun h => by rcases h with h | h | h <;> simp [h]⟩
theorem insN_sorted {x : Node} : ∀ {l : List Node}, SortedN l → SortedN (insN x l)
  | [], _ => by simp [insN, SortedN]
  | y :: r, h => by
    have hp := List.pairwise_cons.1 h
    simp only [insN]
    split
    · rename_i hlt
      refine List.pairwise_cons.2 ⟨fun z hz => ?_, h⟩
      rcases List.mem_cons.1 hz with rfl | hz
      · exact hlt
      · exact ltN_trans hlt (hp.1 z hz)
    · split
      · exact h
      · rename_i h1 h2
        refine List.pairwise_cons.2 ⟨fun z hz => ?_, insN_sorted hp.2⟩
        rcases mem_insN.1 hz with rfl | hz
        · exact ltN_or (by simpa using h1) h2
        · exact hp.1 z hz
theorem fits_sorted (rs : List TRow) (s : Nat) : SortedN (fits rs s) := by
  unfold fits
  generalize run rs rs.length ⟨0, 0, s⟩ = l
  induction l with
  | nil => exact List.Pairwise.nil
  | cons a r ih => exact insN_sorted ih
theorem mem_fits {rs : List TRow} {s : Nat} {x : Node} : x ∈ fits rs s ↔ x ∈ run rs rs.length ⟨0, 0, s⟩ := by
  unfold fits
  generalize run rs rs.length ⟨0, 0, s⟩ = l
  induction l with
  | nil => simp
  | cons a r ih => simp [mem_insN, ih]
theorem sortedN_nodup {l : List Node} (h : SortedN l) : l.Nodup := h.imp fun {a b} hab he => by
  subst he; rw [ltN_irr] at hab; cases hab
theorem sortedN_eq : ∀ {l m : List Node}, SortedN l → SortedN m → (∀ x, x ∈ l ↔ x ∈ m) → l = m
  | [], [], _, _, _ => rfl
  | [], b :: m, _, _, h => by have := (h b).2 (by simp); simp at this
  | a :: l, [], _, _, h => by have := (h a).1 (by simp); simp at this
  | a :: l, b :: m, hl, hm, h => by
    have pl := List.pairwise_cons.1 hl
    have pm := List.pairwise_cons.1 hm
    have hab : a = b := by
      rcases List.mem_cons.1 ((h a).1 (by simp)) with h1 | h1
      · exact h1
      · rcases List.mem_cons.1 ((h b).2 (by simp)) with h2 | h2
        · exact h2.symm
        · have := ltN_trans (pm.1 a h1) (pl.1 b h2)
          rw [ltN_irr] at this; cases this
    subst hab
    rw [sortedN_eq pl.2 pm.2 fun x => ?_]
    constructor
    · intro hx
      rcases List.mem_cons.1 ((h x).1 (by simp [hx])) with rfl | h1
      · have := pl.1 x hx; rw [ltN_irr] at this; cases this
      · exact h1
    · intro hx
      rcases List.mem_cons.1 ((h x).2 (by simp [hx])) with rfl | h1
      · have := pm.1 x hx; rw [ltN_irr] at this; cases this
      · exact h1
end Tb
end Go.Au

namespace Go.Au
open Go
namespace Fm
theorem formed_kids {t : Nat → Bool} {f : Fm} (h : formed t f = true) : headOk t f.op f.name f.kids.length = true ∧ ∀ k ∈ f.kids, formed t k = true := by
  obtain ⟨o, n, k⟩ := f
  simp only [formed, Bool.and_eq_true, formeds_all, List.all_eq_true] at h
  exact h
theorem formed_all {t : Nat → Bool} : ∀ {f x : Fm}, formed t f = true → x ∈ f.all → formed t x = true := by
  intro f
  refine ind (P := fun f => ∀ {x : Fm}, formed t f = true → x ∈ f.all → formed t x = true) ?_ f
  intro o n k ih x h hx
  rcases mem_all.1 hx with rfl | ⟨c, hc, hx⟩
  · exact h
  · exact ih c hc ((formed_kids h).2 c hc) hx
theorem headOk_spec {t : Nat → Bool} {op len : Nat} {n : ByteArray} (h : headOk t op n len = true) : op < 22 ∧ op ≠ 0 ∧ (len : Int) = kidsTab.getD op (-1) ∧ t op = true ∧ nmOk op n = true := by
  simp only [headOk, Bool.and_eq_true, decide_eq_true_eq] at h
  obtain ⟨⟨⟨⟨h1, h2⟩, h3⟩, h4⟩, h5⟩ := h
  refine ⟨h1, ?_, h3, h4, h5⟩
  rintro rfl
  revert h2; decide
theorem isN_all {t : Nat → Bool} : ∀ {f x : Fm}, formed t f = true → isN f = true → x ∈ f.all → isN x = true := by
  intro f
  refine ind (P := fun f => ∀ {x : Fm}, formed t f = true → isN f = true → x ∈ f.all → isN x = true) ?_ f
  intro o n k ih x hf h hx
  rcases mem_all.1 hx with rfl | ⟨c, hc, hx⟩
  · exact h
  · have hfk := (formed_kids hf).2
    refine ih c hc (hfk c hc) ?_ hx
    simp only [isN] at h
    split at h
    · rename_i ho
      have hh := (headOk_spec (formed_kids hf).1).2.2.1
      subst ho
      have hl : k.length = 1 := by
        have : (k.length : Int) = 1 := hh
        omega
      match k, hl with
      | [a], _ =>
        simp only [head, decide_eq_true_eq] at h
        have hca : c = a := by simpa [kids] using hc
        subst hca
        obtain ⟨o', n', k'⟩ := c
        have h := of_decide_eq_true h
        subst h
        have h3 := (headOk_spec (formed_kids (hfk _ hc)).1).2.2.1
        have hl : k'.length = 0 := by
          have : (k'.length : Int) = 0 := h3
          omega
        match k', hl with
        | [], _ => rfl
    · split at h
      · cases h
      · rw [isNs_all, List.all_eq_true] at h
        exact h c hc
theorem subs_at_mem {f x : Fm} {i : Nat} (h : (subs f)[i]? = some x) : x ∈ f.all := mem_subs.1 (List.mem_of_getElem? h)
/-- a kid stands ahead -/
theorem place_kid {f x c : Fm} {i : Nat} (h : (subs f)[i]? = some x) (hc : c ∈ x.kids) : ∃ j : Nat, idx (subs f) c = j ∧ (subs f)[j]? = some c ∧ j < i := by
  have hm : c ∈ subs f := mem_subs.2 (all_trans (subs_at_mem h) (kid_all hc))
  obtain ⟨j, h1, h2⟩ := idx_mem hm
  refine ⟨j, h1, h2, ?_⟩
  obtain ⟨hi, hx⟩ := List.getElem?_eq_some_iff.1 h
  obtain ⟨hj, hy⟩ := List.getElem?_eq_some_iff.1 h2
  have hs := size_kid hc
  rcases Nat.lt_trichotomy j i with h | h | h
  · exact h
  · subst h
    have : x = c := hx.symm.trans hy
    subst this; omega
  · have h3 := List.pairwise_iff_getElem.1 (subs_sorted f) i j hi hj h
    rw [hx, hy, ord_neg, ord_of_size hs] at h3
    omega
end Fm
namespace Tb
open Fm (idx)
theorem kidP_at {f x : Fm} {i n : Nat} (h : f.subs[i]? = some x) (hn : n < x.kids.length) : ∃ (j : Nat) (c : Fm), kidP f.subs x.kids n = j ∧ x.kids[n]? = some c ∧ f.subs[j]? = some c ∧ j < i := by
  have hc := List.getElem?_eq_getElem hn
  obtain ⟨j, h1, h2, h3⟩ := Fm.place_kid h (List.getElem_mem hn)
  exact ⟨j, _, by unfold kidP; rw [hc]; exact h1, hc, h2, h3⟩
theorem setNeg_all {P : TRow → Prop} {rs : List TRow} {i : Nat} {v : Int} (h : ∀ r ∈ rs, P r) (hv : ∀ r, P r → P { r with neg := v }) : ∀ r ∈ setNeg rs i v, P r := by
  intro r hr
  unfold setNeg at hr
  split at hr
  · rename_i q hq
    rcases List.mem_or_eq_of_mem_set hr with h1 | rfl
    · exact h r h1
    · exact hv q (h q (List.mem_of_getElem? hq))
  · exact h r hr
theorem negs_bound {n : Nat} : ∀ (i : Nat) (rs : List TRow), i ≤ n → (∀ r ∈ rs, r.neg < n ∧ r.a < n) → ∀ r ∈ negs i rs, r.neg < n ∧ r.a < n
  | 0, rs, _, h => h
  | i + 1, rs, hi, h => by
    have ih := negs_bound i rs (by omega) h
    simp only [negs]
    unfold negStep
    split
    · rename_i r hr
      split
      · have hr' := ih r (List.mem_of_getElem? hr)
        exact setNeg_all (P := fun r => r.neg < n ∧ r.a < n) (setNeg_all (P := fun r => r.neg < n ∧ r.a < n) ih fun q hq => ⟨hr'.2, hq.2⟩) fun q hq => ⟨by show ((i : Nat) : Int) < n; omega, hq.2⟩
      · exact ih
    · exact ih
theorem kidP_lt {f x : Fm} {i n : Nat} (h : f.subs[i]? = some x) : 0 ≤ kidP f.subs x.kids n ∧ kidP f.subs x.kids n < f.subs.length := by
  have hi := (List.getElem?_eq_some_iff.1 h).1
  by_cases hn : n < x.kids.length
  · obtain ⟨j, c, h1, -, -, h4⟩ := kidP_at h hn
    rw [h1]
    omega
  · unfold kidP
    rw [List.getElem?_eq_none (by omega)]
    simp only
    omega
theorem wf_rows {f : Fm} {t : Nat → Bool} (hf : Fm.formed t f = true) : WfR (rows f.subs) := by
  intro i r hr
  obtain ⟨x, hx, h1, h2, h3⟩ := rows_at hr
  have hfx := Fm.formed_all hf (Fm.subs_at_mem hx)
  have hh := Fm.headOk_spec (Fm.formed_kids hfx).1
  have two : (x.op = 5 ∨ x.op = 6 ∨ x.op = 12 ∨ x.op = 13) → x.kids.length = 2 := by
    intro h
    have h4 := hh.2.2.1
    rcases h with h | h | h | h <;> rw [h] at h4 <;> exact Int.ofNat.inj h4
  have one : x.op = 9 → x.kids.length = 1 := by
    intro h
    have h4 := hh.2.2.1
    rw [h] at h4
    exact Int.ofNat.inj h4
  refine ⟨by rw [h1]; exact hh.2.1, fun ho => ?_, fun ho => ?_, ?_⟩
  · rw [h1] at ho
    have hl := two ho
    obtain ⟨j, c, e1, -, -, e4⟩ := kidP_at (n := 0) hx (by omega)
    obtain ⟨j', c', e1', -, -, e4'⟩ := kidP_at (n := 1) hx (by omega)
    rw [h2, h3, e1, e1']
    omega
  · rw [h1] at ho
    obtain ⟨j, c, e1, -, -, e4⟩ := kidP_at (n := 0) hx (by rw [one ho]; omega)
    rw [h2, e1]
    omega
  · rw [rows_len]
    refine (negs_bound (n := f.subs.length) f.subs.length (f.subs.map (row0 f.subs)) (Nat.le_refl _) ?_ r (List.mem_of_getElem? hr)).1
    intro q hq
    obtain ⟨y, hy, rfl⟩ := List.mem_map.1 hq
    obtain ⟨k, hk⟩ := List.getElem?_of_mem hy
    have := kidP_lt (n := 0) hk
    refine ⟨?_, this.2⟩
    show (-1 : Int) < f.subs.length
    omega
end Tb
end Go.Au

namespace Go.Au
open Go
namespace Tb
open Fm (idx)
def sortN (l : List Node) : List Node := l.mergeSort fun x y => !ltN y x
theorem sortN_sorted {l : List Node} (hn : l.Nodup) : SortedN (sortN l) := by
  have h1 : (sortN l).Pairwise fun x y => (!ltN y x) = true := List.pairwise_mergeSort (le := fun x y => !ltN y x)
    (fun a b c h1 h2 => by
      simp only [Bool.not_eq_true'] at *
      rw [← Bool.not_eq_true, ltN_iff] at *
      omega)
    (fun a b => by
      simp only [Bool.or_eq_true, Bool.not_eq_true']
      simp only [← Bool.not_eq_true, ltN_iff]
      omega) l
  have h2 : (sortN l).Nodup := (List.mergeSort_perm l _).nodup_iff.2 hn
  refine (h1.and h2).imp fun {a b} h => ?_
  exact ltN_or (by simpa using h.1) (Ne.symm h.2)
theorem sortN_mem {l : List Node} {x : Node} : x ∈ sortN l ↔ x ∈ l := (List.mergeSort_perm l _).mem_iff
theorem sortN_len (l : List Node) : (sortN l).length = l.length := (List.mergeSort_perm l _).length_eq
theorem sortN_fits {rs : List TRow} {s : Nat} {l : List Node} (hn : l.Nodup) (h : ∀ x, x ∈ l ↔ x ∈ run rs rs.length ⟨0, 0, s⟩) : sortN l = fits rs s :=
  sortedN_eq (sortN_sorted hn) (fits_sorted rs s) fun x => by rw [sortN_mem, h, mem_fits]
/-! #### numbers in order -/
theorem insI_perm (x : Nat) : ∀ l : List Nat, (insI x l).Perm (x :: l)
  | [] => List.Perm.refl _
  | y :: r => by
    simp only [insI]
    split
    · exact List.Perm.refl _
    · exact ((insI_perm x r).cons y).trans (List.Perm.swap x y r)
theorem isort_perm : ∀ l : List Nat, (isort l).Perm l
  | [] => List.Perm.refl _
  | a :: r => (insI_perm a (isort r)).trans ((isort_perm r).cons a)
theorem insI_sorted {x : Nat} : ∀ {l : List Nat}, l.Pairwise (· ≤ ·) → (insI x l).Pairwise (· ≤ ·)
  | [], _ => by simp [insI]
  | y :: r, h => by
    have hp := List.pairwise_cons.1 h
    simp only [insI]
    split
    · rename_i hlt
      refine List.pairwise_cons.2 ⟨fun z hz => ?_, h⟩
      rcases List.mem_cons.1 hz with rfl | hz
      · exact hlt
      · exact Nat.le_trans hlt (hp.1 z hz)
    · refine List.pairwise_cons.2 ⟨fun z hz => ?_, insI_sorted hp.2⟩
      rcases List.mem_cons.1 ((insI_perm x r).mem_iff.1 hz) with rfl | hz
      · omega
      · exact hp.1 z hz
theorem isort_sorted : ∀ l : List Nat, (isort l).Pairwise (· ≤ ·)
  | [] => List.Pairwise.nil
  | a :: r => insI_sorted (isort_sorted r)
theorem isort_len (l : List Nat) : (isort l).length = l.length := (isort_perm l).length_eq
theorem sort_ints (l : List Nat) : ((l.map fun (n : Nat) => (n : Int)).mergeSort fun x y => decide (x ≤ y)) = (isort l).map fun (n : Nat) => (n : Int) := by
  have h1 : ((l.map fun (n : Nat) => (n : Int)).mergeSort fun x y => decide (x ≤ y)).Pairwise fun x y => decide (x ≤ y) = true := List.pairwise_mergeSort (le := fun x y : Int => decide (x ≤ y))
    (fun a b c h1 h2 => by simp only [decide_eq_true_eq] at *; omega) (fun a b => by simp only [Bool.or_eq_true, decide_eq_true_eq]; omega) _
  have h2 : ((isort l).map fun (n : Nat) => (n : Int)).Pairwise fun x y => decide (x ≤ y) = true := by
    rw [List.pairwise_map]
    exact (isort_sorted l).imp fun {a b} h => by simpa using h
  refine List.Perm.eq_of_pairwise (le := fun x y : Int => decide (x ≤ y) = true) (fun a b _ _ h1 h2 => by simp only [decide_eq_true_eq] at *; omega) h1 h2 ?_
  exact (List.mergeSort_perm _ _).trans ((isort_perm l).symm.map _)
/-! #### numbering -/
theorem add1_spec (st : List Node × List Nat) (p : Node) (hn : st.1.Nodup) : (add1 st p).1.Nodup ∧ st.1 <+: (add1 st p).1 ∧ (∀ x, x ∈ (add1 st p).1 ↔ x ∈ st.1 ∨ x = p) ∧ ∃ i : Nat, (add1 st p).2 = st.2 ++ [i] ∧ (add1 st p).1[i]? = some p ∧ ((p ∉ st.1 ∧ (add1 st p).1 = st.1 ++ [p] ∧ i = st.1.length) ∨ (p ∈ st.1 ∧ (add1 st p).1 = st.1 ∧ idx st.1 p = i)) := by
  unfold add1
  by_cases h : idx st.1 p < 0
  · rw [if_pos h]
    have hm := Fm.idx_neg.1 h
    refine ⟨?_, List.prefix_append _ _, fun x => by simp, st.1.length, rfl, by simp, .inl ⟨hm, rfl, rfl⟩⟩
    rw [List.nodup_append]
    exact ⟨hn, by simp, fun a ha b hb => by
      simp only [List.mem_singleton] at hb
      subst hb
      exact fun he => hm (he ▸ ha)⟩
  · rw [if_neg h]
    have hm : p ∈ st.1 := Classical.byContradiction fun hc => h (Fm.idx_neg.2 hc)
    obtain ⟨i, h1, h2⟩ := Fm.idx_mem hm
    refine ⟨hn, List.prefix_refl _, fun x => ⟨.inl, fun hx => hx.elim id fun he => he ▸ hm⟩, i, by rw [h1]; rfl, h2, .inr ⟨hm, rfl, h1⟩⟩
theorem addF_spec : ∀ (l : List Node) (st : List Node × List Nat), st.1.Nodup → (l.foldl add1 st).1.Nodup ∧ st.1 <+: (l.foldl add1 st).1 ∧ (∀ x, x ∈ (l.foldl add1 st).1 ↔ x ∈ st.1 ∨ x ∈ l) ∧ (l.foldl add1 st).2.length = st.2.length + l.length
  | [], st, h => ⟨h, List.prefix_refl _, fun x => by simp, by simp⟩
  | p :: r, st, h => by
    obtain ⟨h1, h2, h3, i, h4, h5, -⟩ := add1_spec st p h
    obtain ⟨k1, k2, k3, k4⟩ := addF_spec r (add1 st p) h1
    refine ⟨k1, h2.trans k2, fun x => ?_, ?_⟩
    · rw [List.foldl_cons, k3, h3]
      simp only [List.mem_cons, or_assoc]
    · rw [List.foldl_cons, k4, h4]
      simp
      omega
theorem addF_vals : ∀ (l : List Node) (st : List Node × List Nat), st.1.Nodup → (∀ i ∈ st.2, i < st.1.length) → ∀ i ∈ (l.foldl add1 st).2, i < (l.foldl add1 st).1.length
  | [], st, _, h => h
  | p :: r, st, hn, h => by
    obtain ⟨h1, h2, h3, i, h4, h5, -⟩ := add1_spec st p hn
    refine addF_vals r (add1 st p) h1 fun j hj => ?_
    rw [h4] at hj
    rcases List.mem_append.1 hj with hj | hj
    · exact Nat.lt_of_lt_of_le (h j hj) h2.length_le
    · simp only [List.mem_singleton] at hj
      subst hj
      exact (List.getElem?_eq_some_iff.1 h5).1
theorem addF_length (l : List Node) (st : List Node × List Nat) : (l.foldl add1 st).1.length ≤ st.1.length + l.length := by
  induction l generalizing st with
  | nil => simp
  | cons p r ih =>
    have h := ih (add1 st p)
    have h2 : (add1 st p).1.length ≤ st.1.length + 1 := by
      unfold add1
      split <;> simp
    simp only [List.foldl_cons, List.length_cons]
    omega
end Tb
end Go.Au

namespace Go.Au
open Go Go.RowKit

/-! ### Right, Is -/
theorem callBig : callable Proofs.Tryz.prog 165 = true := by kernel_rfl
theorem big_c {n lo hi : Nat} {w : World} {v : Value} {f : Fm} (h : KidsN n lo hi w v f.kids) (hs : f.size < 4611686018427387904) :
    Calls Proofs.Tryz.prog 165 [fmA f v].toArray w (Ret fun r w' => r = .bool f.big ∧ Kp w w') := by
  obtain ⟨a, c, rfl, hc⟩ := h.slice
  refine call agree Proofs.Tryz.func165 rfl Proofs.Tryz.ntmps165 (by kernel_rfl) ?_
  refine nd fun p w1 e1 s1 k1 m1 => ?_
  have m1 : Own w1 p 26 (fmC f (.slice a f.kids.length c)) := m1
  refine ld agree (Own.at_ (xs := fmC f (.slice a f.kids.length c)) m1 rfl) (by rfl) ?_
  refine cl callSize (size_c n lo hi w1 _ f (h.kp k1) hs) ?_
  rintro _ w2 ⟨rfl, k2⟩
  refine sp (fun h1 => ?_) (fun h1 => ?_)
  · exact ⟨congrArg Value.bool (by unfold Fm.big; rw [decide_eq_true (by omega)]; rfl), k1.trans k2⟩
  · refine ld agree (Own.at_ (xs := fmC f (.slice a f.kids.length c)) (k2.own m1 id) rfl) (by rfl) ?_
    refine cl callDepth (depth_c n lo hi w2 _ f (h.kp (k1.trans k2)) hs) ?_
    rintro _ w3 ⟨rfl, k3⟩
    refine sp (fun h2 => ?_) (fun h2 => ?_)
    · exact ⟨congrArg Value.bool (by unfold Fm.big; rw [decide_eq_true (p := 100 < f.depth) (by omega), Bool.or_true]), (k1.trans k2).trans k3⟩
    · exact ⟨congrArg Value.bool (by unfold Fm.big; rw [decide_eq_false (p := 100 < f.depth) (by omega), decide_eq_false (by omega)]; rfl), (k1.trans k2).trans k3⟩
theorem callRight : callable Proofs.Tryz.prog 121 = true := by kernel_rfl
theorem callRightT : callable Proofs.Tryz.prog 54 = true := by kernel_rfl
def rightI (f : Fm) : Int := Fm.rightE 30 31 f
theorem right_c {n lo hi : Nat} {w : World} {v : Value} {f : Fm} (hT : KTab w) (h : KidsN n lo hi w v f.kids) (hs : f.size < 4611686018427387904) (hop : ∀ x ∈ f.all, x.op < 256) :
    Calls Proofs.Tryz.prog 54 [fmA f v].toArray w (Ret fun r w' => r = .int .i64 (rightI f) ∧ Kp w w') := by
  obtain ⟨a, c, rfl, hc⟩ := h.slice
  refine call agree Proofs.Tryz.func54 rfl Proofs.Tryz.ntmps54 (by kernel_rfl) ?_
  refine nd fun p w1 e1 s1 k1 m1 => ?_
  have m1 : Own w1 p 26 (fmC f (.slice a f.kids.length c)) := m1
  refine ld agree (Own.at_ (xs := fmC f (.slice a f.kids.length c)) m1 rfl) (by rfl) ?_
  have hin : Calls Proofs.Tryz.prog 121 [fmA f (.slice a f.kids.length c), .func (.func 122) #[] #[]].toArray w1 (Ret fun r w' => r = .int .i64 (rightI f) ∧ Kp w1 w') := by
    refine call agree Proofs.Tryz.func121 rfl Proofs.Tryz.ntmps121 (by kernel_rfl) ?_
    refine nd fun p2 w2 e2 s2 k2 m2 => ?_
    have m2 : Own w2 p2 26 (fmC f (.slice a f.kids.length c)) := m2
    refine ld agree (Own.at_ (xs := fmC f (.slice a f.kids.length c)) m2 rfl) (by rfl) ?_
    have hfc := formed_c 122 Fm.future callFuture (fun W o => future_c W o) n lo hi w2 _ f (hT.kp (k1.trans k2)) (h.kp (k1.trans k2)) hs hop
    cases hff : Fm.formed Fm.future f with
    | false =>
      rw [hff] at hfc
      refine cl callFormed hfc ?_
      rintro _ w3 ⟨rfl, k3⟩
      exact ⟨congrArg (Value.int .i64) (by unfold rightI Fm.rightE; rw [if_pos hff]), k2.trans k3⟩
    | true =>
      rw [hff] at hfc
      refine cl callFormed hfc ?_
      rintro _ w3 ⟨rfl, k3⟩
      refine ld agree (Own.at_ (xs := fmC f (.slice a f.kids.length c)) (k3.own m2 id) rfl) (by rfl) ?_
      have hbc := big_c (h.kp ((k1.trans k2).trans k3)) hs
      cases hb : f.big with
      | true =>
        rw [hb] at hbc
        refine cl callBig hbc ?_
        rintro _ w4 ⟨rfl, k4⟩
        exact ⟨congrArg (Value.int .i64) (by unfold rightI Fm.rightE; rw [if_neg (by rw [hff]; decide), if_pos hb]), (k2.trans k3).trans k4⟩
      | false =>
        rw [hb] at hbc
        refine cl callBig hbc ?_
        rintro _ w4 ⟨rfl, k4⟩
        exact ⟨congrArg (Value.int .i64) (by unfold rightI Fm.rightE; rw [if_neg (by rw [hff]; decide), if_neg (by rw [hb]; decide)]), (k2.trans k3).trans k4⟩
  refine cl callRight hin ?_
  rintro _ w2 ⟨rfl, k2⟩
  exact ⟨rfl, k1.trans k2⟩
theorem rightI_ok {f : Fm} : rightI f = 0 ↔ f.right = true := by
  unfold rightI Fm.rightE Fm.right
  cases Fm.formed Fm.future f <;> cases f.big <;> simp
theorem right_formed {f : Fm} (h : f.right = true) : Fm.formed Fm.future f = true ∧ f.size ≤ 1000 ∧ f.depth ≤ 100 := by
  simp only [Fm.right, Fm.big, Bool.and_eq_true, Bool.not_eq_true', Bool.or_eq_false_iff, decide_eq_false_iff_not, Nat.not_lt] at h
  exact h

theorem isNs_take {k : List Fm} {i : Nat} {x : Fm} (hx : k[i]? = some x) (h : Fm.isNs (k.take i) = true) : Fm.isNs (k.take (i + 1)) = Fm.isN x := by
  obtain ⟨hi, rfl⟩ := List.getElem?_eq_some_iff.1 hx
  rw [Fm.isNs_all] at *
  rw [List.take_succ_eq_append_getElem hi, List.all_append, h]
  simp
theorem isNs_false {k : List Fm} {i : Nat} {x : Fm} (hx : k[i]? = some x) (h : Fm.isN x = false) : Fm.isNs k = false := by
  rw [Fm.isNs_all, List.all_eq_false]
  exact ⟨x, List.mem_of_getElem? hx, by simp [h]⟩
theorem isN_kids (f : Fm) (h4 : f.op ≠ 4) (h : ¬ (f.op = 7 ∨ f.op = 8 ∨ f.op = 10 ∨ f.op = 11 ∨ f.op = 14 ∨ f.op = 15)) : Fm.isN f = Fm.isNs f.kids := by
  obtain ⟨o, n, k⟩ := f
  simp only [Fm.op] at h4 h
  simp only [Fm.isN]
  rw [if_neg h4, if_neg h]
  rfl
theorem isN_no (f : Fm) (h : f.op = 7 ∨ f.op = 8 ∨ f.op = 10 ∨ f.op = 11 ∨ f.op = 14 ∨ f.op = 15) : Fm.isN f = false := by
  obtain ⟨o, n, k⟩ := f
  simp only [Fm.op] at h
  simp only [Fm.isN]
  rw [if_neg (by omega), if_pos h]
theorem callIsN : callable Proofs.Tryz.prog 123 = true := by kernel_rfl
theorem isN_c : ∀ (n lo hi : Nat) (w : World) (v : Value) (f : Fm), KidsN n lo hi w v f.kids → f.size < 4611686018427387904 → Fm.formed Fm.future f = true →
    Calls Proofs.Tryz.prog 123 [fmA f v].toArray w (Ret fun r w' => r = .bool f.isN ∧ Kp w w') := by
  intro n
  induction n using Nat.strongRecOn with
  | ind n ih =>
    intro lo hi w v f h hs hf
    obtain ⟨a, c, rfl, hc⟩ := h.slice
    have hkl := kids_le f.kids
    have hsz := size_kids f
    have hfk := Fm.formed_kids hf
    refine call agree Proofs.Tryz.func123 rfl Proofs.Tryz.ntmps123 (by kernel_rfl) ?_
    refine nd fun p w1 e1 s1 k1 m1 => ?_
    have m1 : Own w1 p 26 (fmC f (.slice a f.kids.length c)) := m1
    refine ld agree (Own.at_ (xs := [.int .u8 f.op]) m1 rfl) (by rfl) ?_
    refine sp (fun h4 => ?_) (fun h4 => ?_)
    · have h4' : f.op = 4 := by omega
      have hl := (Fm.headOk_spec hfk.1).2.2.1
      rw [h4'] at hl
      have hl1 : f.kids.length = 1 := Int.ofNat.inj hl
      have hx : f.kids[0]? = some f.kids[0] := List.getElem?_eq_getElem (by omega)
      generalize f.kids[0] = x at hx
      obtain _ | n := n
      · exact (h.kid0 hx).elim
      obtain ⟨b, o, u, rfl, -, -, hrd, hku⟩ := h.kid hx
      refine ld agree (Own.at_ (xs := [.slice (some ⟨b, o, none⟩) f.kids.length c]) m1 rfl) (by rfl) ?_
      refine ne ⟨by omega, by omega⟩ ?_
      refine ld agree (rangeAt_sub (i := 0) (k1.range hrd id) (xs := [.int .u8 x.op]) rfl) (by rfl) ?_
      have hN : f.isN = decide (x.op = 3) := by
        obtain ⟨o, nm, k⟩ := f
        simp only [Fm.op] at h4'
        simp only [Fm.kids] at hx
        subst h4'
        match k, hx with
        | y :: r, hx =>
          have : y = x := by simpa using hx
          subst this
          rfl
      refine sp (fun h5 => ?_) (fun h5 => ?_)
      · exact ⟨congrArg Value.bool (by rw [hN, decide_eq_true (by omega)]), k1⟩
      · exact ⟨congrArg Value.bool (by rw [hN, decide_eq_false (by omega)]), k1⟩
    · refine sp (fun h5 => ?_) (fun h5 => ?_)
      · exact ⟨congrArg Value.bool (isN_no f (by omega)).symm, k1⟩
      refine sp (fun h6 => ?_) (fun h6 => ?_)
      · exact ⟨congrArg Value.bool (isN_no f (by omega)).symm, k1⟩
      refine sp (fun h7 => ?_) (fun h7 => ?_)
      · exact ⟨congrArg Value.bool (isN_no f (by omega)).symm, k1⟩
      refine sp (fun h8 => ?_) (fun h8 => ?_)
      · exact ⟨congrArg Value.bool (isN_no f (by omega)).symm, k1⟩
      refine sp (fun h9 => ?_) (fun h9 => ?_)
      · exact ⟨congrArg Value.bool (isN_no f (by omega)).symm, k1⟩
      refine sp (fun h10 => ?_) (fun h10 => ?_)
      · exact ⟨congrArg Value.bool (isN_no f (by omega)).symm, k1⟩
      have hN := isN_kids f (by omega) (by omega)
      refine ld agree (Own.at_ (xs := [.slice a f.kids.length c]) m1 rfl) (by rfl) ?_
      refine loop agree (σ := Nat) (fun i => [(23, .slice a f.kids.length c), (24, .int .i64 f.kids.length), (25, .int .i64 i)]) (fun i w' => Kp w w' ∧ i ≤ f.kids.length ∧ Fm.isNs (f.kids.take i) = true) (fun i => f.kids.length - i) 0 ⟨rfl, rfl, rfl, trivial⟩ ⟨k1, by omega, rfl⟩ ?_
      rintro i e0 w2 ⟨hk2, hi2, hall⟩
      refine sp (fun h11 => ?_) (fun h11 => ?_)
      · have hi' : i < f.kids.length := by omega
        have hx := List.getElem?_eq_getElem hi'
        generalize f.kids[i] = x at hx
        obtain _ | n := n
        · exact (h.kid0 hx).elim
        obtain ⟨b, o, u, rfl, hlo, hhi, hrd, hku⟩ := h.kid hx
        obtain ⟨ua, uc, rfl, -⟩ := hku.slice
        refine ne ⟨by omega, h11⟩ ?_
        refine ld agree (hk2.range hrd id) (by rfl) ?_
        refine nd fun m5 w3 e3 e4 k3 hm5 => ?_
        refine st agree hm5 rfl (Nat.le_refl 3) rfl fun w4 e5 k4 hm6 => ?_
        have hk4 : Kp w w4 := (hk2.trans k3).newS k4 (fun j hj => by subst hj; have := hk2.size; omega)
        refine ld agree (Own.at_ (xs := fmC x _) (show Own w4 m5 _ (fmC x _) from hm6) rfl) (by rfl) ?_
        have hxm := List.mem_of_getElem? hx
        have hsl := Fm.sizes_mem hxm
        have hcall := ih n (by omega) lo hi w4 _ x (hku.kp hk4) (by omega) (hfk.2 x hxm)
        cases hb : x.isN with
        | false =>
          rw [hb] at hcall
          refine cl callIsN hcall ?_
          rintro _ w5 ⟨rfl, k5⟩
          exact ⟨congrArg Value.bool (by rw [hN, isNs_false hx hb]), hk4.trans k5⟩
        | true =>
          rw [hb] at hcall
          refine cl callIsN hcall ?_
          rintro _ w5 ⟨rfl, k5⟩
          refine aw (by omega) (by omega) ?_
          exact again (i + 1) ⟨rfl, rfl, rfl, trivial⟩ ⟨hk4.trans k5, by omega, by rw [isNs_take hx hall, hb]⟩ (by omega)
      · have hil : i = f.kids.length := by omega
        subst hil
        rw [List.take_length] at hall
        exact ⟨congrArg Value.bool (by rw [hN, hall]), hk2⟩
theorem callIs : callable Proofs.Tryz.prog 55 = true := by kernel_rfl
theorem is_c {n lo hi : Nat} {w : World} {v : Value} {f : Fm} (hT : KTab w) (h : KidsN n lo hi w v f.kids) (hs : f.size < 4611686018427387904) (hop : ∀ x ∈ f.all, x.op < 256) :
    Calls Proofs.Tryz.prog 55 [fmA f v].toArray w (Ret fun r w' => r = .bool (f.right && f.isN) ∧ Kp w w') := by
  obtain ⟨a, c, rfl, hc⟩ := h.slice
  refine call agree Proofs.Tryz.func55 rfl Proofs.Tryz.ntmps55 (by kernel_rfl) ?_
  refine nd fun p w1 e1 s1 k1 m1 => ?_
  have m1 : Own w1 p 26 (fmC f (.slice a f.kids.length c)) := m1
  refine ld agree (Own.at_ (xs := fmC f (.slice a f.kids.length c)) m1 rfl) (by rfl) ?_
  refine cl callRightT (right_c (hT.kp k1) (h.kp k1) hs hop) ?_
  rintro _ w2 ⟨rfl, k2⟩
  refine sp (fun h1 => ?_) (fun h1 => ?_)
  · have hr := rightI_ok.1 h1
    refine ld agree (Own.at_ (xs := fmC f (.slice a f.kids.length c)) (k2.own m1 id) rfl) (by rfl) ?_
    refine cl callIsN (isN_c n lo hi w2 _ f (h.kp (k1.trans k2)) hs (right_formed hr).1) ?_
    rintro _ w3 ⟨rfl, k3⟩
    exact ⟨congrArg Value.bool (by rw [hr]; rfl), (k1.trans k2).trans k3⟩
  · refine ⟨congrArg Value.bool ?_, k1.trans k2⟩
    cases hr : f.right with
    | true => exact absurd (rightI_ok.2 hr) h1
    | false => rfl
end Go.Au

namespace Go.Au
open Go Go.RowKit

section
variable {P : Program} {Γ : List (Nat × TI)}
/-- a call that keeps U -/
theorem calluk {S : World → World → Prop} {U : World → Prop} {px xx : Bool} {e : Env} {w0 : World} {Dn : World → Prop} {op : Oper} {K : Value → DP → Prop} {c : Go.Call} {τ : Type} [hne : Nonempty τ] (f : τ → Value) (F : τ → World → Prop) (ho : op.op = .call c) {fo : Operand} {g : FuncId} {first cap : Array Value} (hc : c.callee = .value fo) (hf : ev e fo = .func (.func g) first cap)
    (hst : ∀ y W W', F y W → S W W' → F y W') (hcall : callable P g = true) (h : ∀ W, S w0 W → Dn W → Calls P g (first.toList ++ c.args.toList.map (ev e) ++ cap.toList).toArray W (Ret fun r W' => S W W' ∧ (U W → U W') ∧ ∃ y, r = f y ∧ F y W'))
    (hk : ∀ y D, (∀ W, D W → F y W) → K (f y) D) : MkU S U px xx w0 Dn (op1 P Γ e op) K :=
  ⟨τ, hne, f, F, hst, fun W h1 h2 _ => by
    unfold op1
    rw [ho]
    simp only [isPure, hc, hf]
    exact ⟨hcall, Calls.mono (h W h1 h2) fun en w' hr => by
      cases en with
      | returned r =>
        obtain ⟨hs, hu, y, hy⟩ := hr
        exact ⟨⟨hs, fun _ => hu⟩, y, hy⟩
      | _ => exact hr.elim⟩, fun y D hD => hk y D hD⟩
end
/-- beside one store into b, behind which Q holds -/
structure ChgQ (b : Nat) (Q : World → Prop) (W W' : World) : Prop where
  chg : Chg (fun k => k = b) W W'
  row : (b < W.heap.size → W'.heap[b]? = W.heap[b]?) ∨ Q W'
theorem preChgQ {b : Nat} {Q : World → Prop} (hQ : ∀ W W', Q W → Chg (fun k => k = b) W W' → (b < W.heap.size → W'.heap[b]? = W.heap[b]?) → Q W') : Pre (ChgQ b Q) :=
  ⟨fun h => ⟨h.mono fun _ hf => hf.elim, .inl fun hl => h.block b hl id⟩, fun h k => ⟨h.chg.trans k.chg, by
    rcases k.row with c | c
    · rcases h.row with a | a
      · exact .inl fun hl => (c (Nat.lt_of_lt_of_le hl h.chg.size)).trans (a hl)
      · exact .inr (hQ _ _ a k.chg c)
    · exact .inr c⟩⟩
theorem ChgQ.keeps {b : Nat} {Q : World → Prop} (hQ : ∀ W W', Q W → Chg (fun k => k = b) W W' → (b < W.heap.size → W'.heap[b]? = W.heap[b]?) → Q W') {W W' : World} (h : Q W) (k : ChgQ b Q W W') : Q W' := k.row.elim (hQ W W' h k.chg) id

/-! ### beside a store into a new block of one type -/
structure TyC (Tb : TypeId) (w0 W W' : World) : Prop where
  chg : Chg (fun g => w0.heap.size ≤ g) W W'
  oth : ∀ (g : Nat) (o : Obj), W.heap[g]? = some o → (∀ cur fr, o ≠ Obj.cells cur Tb fr) → W'.heap[g]? = some o
/-- .. behind which Q holds of the block -/
structure TyQ (Tb : TypeId) (Q : Nat → World → Prop) (w0 W W' : World) : Prop where
  ty : TyC Tb w0 W W'
  row : ∀ (g : Nat) (cur : Array Value) (fr : Nat × Nat), W.heap[g]? = some (Obj.cells cur Tb fr) → W'.heap[g]? = W.heap[g]? ∨ Q g W'
theorem preTyQ {Tb : TypeId} {Q : Nat → World → Prop} {w0 : World} (hQ : ∀ g W W', Q g W → TyC Tb w0 W W' → W'.heap[g]? = W.heap[g]? → Q g W') (hT : ∀ g W, Q g W → ∃ cur fr, W.heap[g]? = some (Obj.cells cur Tb fr)) : Pre (TyQ Tb Q w0) :=
  ⟨fun h => ⟨⟨h.mono fun _ hf => hf.elim, fun g o ho _ => h.heap ho id⟩, fun g cur fr hg => .inl (h.block g (lt_of_heap hg) id)⟩,
   fun h k => ⟨⟨h.ty.chg.trans k.ty.chg, fun g o ho hn => k.ty.oth g o (h.ty.oth g o ho hn) hn⟩, fun g cur fr hg => by
    rcases h.row g cur fr hg with a | a
    · rcases k.row g cur fr (a.trans hg) with c | c
      · exact .inl (c.trans a)
      · exact .inr c
    · obtain ⟨cur', fr', h2⟩ := hT g _ a
      rcases k.row g cur' fr' h2 with c | c
      · exact .inr (hQ g _ _ a k.ty c)
      · exact .inr c⟩⟩
theorem TyQ.keeps {Tb : TypeId} {Q : Nat → World → Prop} {w0 : World} (hQ : ∀ g W W', Q g W → TyC Tb w0 W W' → W'.heap[g]? = W.heap[g]? → Q g W') (hT : ∀ g W, Q g W → ∃ cur fr, W.heap[g]? = some (Obj.cells cur Tb fr)) {g : Nat} {W W' : World} (h : Q g W) (k : TyQ Tb Q w0 W W') : Q g W' := by
  obtain ⟨cur, fr, h2⟩ := hT g W h
  exact (k.row g cur fr h2).elim (hQ g W W' h k.ty) id
theorem TyC.row {Tb el : TypeId} {w0 W W' : World} {base size n : Nat} {v : Value} {xs : List Value} (h : W.ownsRow base el size v n xs) (k : TyC Tb w0 W W') (hne : el ≠ Tb) : W'.ownsRow base el size v n xs := by
  refine ⟨h.1, h.2.imp id fun ⟨g, cap, cur, a1, a2, a3, a4⟩ => ⟨g, cap, cur, a1, a2, ?_, a4⟩⟩
  exact k.oth g _ a3 fun cur fr hh => by injection hh with _ h2; exact hne h2
section
variable {P : Program} {Γ : List (Nat × TI)}
/-- a store in whatever order, of which F is told -/
theorem stm {S : World → World → Prop} {e : Env} {w0 : World} {Dn : World → Prop} {op : Oper} {t : TypeId} {x y : Operand} {K : Value → DP → Prop} (F : World → Prop) (ho : op.op = .store t x y) (hst : ∀ W W', F W → S W W' → F W')
    (h : ∀ W, S w0 W → Dn W → St P t (ev e x) (ev e y) W fun W' => S W W' ∧ F W') (hk : ∀ D, (∀ W, D W → F W) → K undef D) : Mk S w0 Dn (op1 P Γ e op) K :=
  ⟨Unit, ⟨()⟩, fun _ => undef, fun _ W => F W, fun _ W W' => hst W W', fun W h1 h2 => by
    unfold op1
    rw [ho]
    simp only [isPure]
    obtain ⟨w', q1, q2, q3⟩ := h W h1 h2
    exact ⟨w', q1, q2, (), trivial, q3⟩, fun _ D hD => hk D hD⟩
/-- a new block, of which F is told -/
theorem als {t : TypeId} {ti : TI} {S : World → World → Prop} (hS : Pre S) {e : Env} {w0 : World} {Dn : World → Prop} {op : Oper} {K : Value → DP → Prop} (F : Nat → World → Prop) (ho : op.op = .alloc t) (hl : look Γ t = some ti) (hst : ∀ b W W', F b W → S W W' → F b W')
    (hF : ∀ b W W', S w0 W → W.heap.size ≤ b → Own W' b t (cellsL ti.zero) → F b W')
    (hk : ∀ b D, (∀ W, D W → F b W) → K (.pointer (some ⟨b, 0, none⟩)) D) : Mk S w0 Dn (op1 P Γ e op) K :=
  ⟨Nat, ⟨0⟩, fun b => .pointer (some ⟨b, 0, none⟩), F, fun b W W' => hst b W W', fun W h1 h2 => by
    unfold op1
    rw [ho]
    simp only [isPure, hl]
    exact nd fun b W' e1 e2 k m => ⟨hS.kp k, b, rfl, hF b W W' h1 (by rw [← e1]; exact Nat.le_refl _) m⟩, fun b D hD => hk b D hD⟩
end
/-! ### a region in which new blocks are told apart -/
section
variable {P : Program} {Γ : List (Nat × TI)} {n : Nat} {ds : List Deferred} {rd : Option Nat}
theorem drawnKd (hG : Agree P Γ) (hm : P.follows .mixedOrders = true) {id : Nat} {ops : Array Oper} (m : Nat) (ord : List Nat) (hreg : regOk ops.toList m ord = true) {K : Exit → Env → World → Prop} {e : Env} {w : World}
    (h : VCo P Γ Kp w ops.toList (masks ops.toList) (fun E Ds => ∀ W, Kp w W → (∀ j, getDs Ds j W) → Dist Γ ops.toList ord E → VCl P Γ ops.toList (K .normal) (ops.toList.drop m) E W) ord [] e) :
    Piece P n ds rd (.region id ops true) K e w :=
  drawnVg hG hm m ord hreg Kp (preChg _) (fun _ => True) 0 trivial (fun _ _ hq W h1 h2 h3 => hq W h1 h2 (h3 fun _ _ k => k.size)) (VCo_to hG _ _ _ h)
def alSlot (Γ : List (Nat × TI)) (p : Nat × Oper) : Option Nat := match p.2.guard, p.2.op with
  | none, .alloc t => if (look Γ t).isSome then p.2.dst else none
  | _, _ => none
def alSlots (Γ : List (Nat × TI)) (ops : List Oper) (ord : List Nat) : List Nat := (nodes ops ord).filterMap (alSlot Γ)
theorem alSlot_some {p : Nat × Oper} {s : Nat} (h : alSlot Γ p = some s) : isAl Γ p.2 ∧ p.2.dst = some s := by
  unfold alSlot at h
  split at h
  · rename_i t hg ho
    split at h
    · rename_i hl
      obtain ⟨ti, hti⟩ := Option.isSome_iff_exists.1 hl
      exact ⟨⟨hg, t, ti, ho, hti⟩, h⟩
    · cases h
  · cases h
theorem Dist.slots {ops : List Oper} {ord : List Nat} {E : Env} (h : Dist Γ ops ord E) : (alSlots Γ ops ord).Pairwise fun s t => E s ≠ E t := by
  unfold alSlots
  rw [List.pairwise_filterMap]
  refine h.imp fun {a b} hp s hs t ht => ?_
  obtain ⟨h1, h2⟩ := alSlot_some hs
  obtain ⟨h3, h4⟩ := alSlot_some ht
  exact hp h1 h3 s t h2 h4
end
end Go.Au

namespace Go.Au
open Go Go.RowKit

/-! ### rows of trees of one's own -/
abbrev fmP (p : Fm × Value) : List Value := fmC p.1 p.2
theorem RowE.map {α β : Type} {E : World → List Value → α → Prop} {E' : World → List Value → β → Prop} {size lo hi : Nat} {w : World} {v : Value} {L : List α} (π : α → β) (h : RowE E size lo hi w v L) (hE : ∀ p ∈ L, ∀ cs, E w cs p → E' w cs (π p)) : RowE E' size lo hi w v (L.map π) := by
  obtain ⟨a, c, h1, h2, h3⟩ := h
  refine ⟨a, c, by rw [List.length_map]; exact h1, by rw [List.length_map]; exact h2, fun i x hx => ?_⟩
  rw [List.getElem?_map] at hx
  cases hp : L[i]? with
  | none => rw [hp] at hx; cases hx
  | some p =>
    rw [hp] at hx
    injection hx with hx
    subst hx
    obtain ⟨b, o, e1, e2, e3, cs, e4, e5, e6⟩ := h3 i p hp
    exact ⟨b, o, e1, e2, e3, cs, e4, e5, hE p (List.mem_of_getElem? hp) cs e6⟩
/-- a tree in a stretch of blocks that a block is not in -/
def Away (n base : Nat) (w : World) (v : Value) (p : Fm × Value) : Prop := ∃ l h, KidsN n l h w p.2 p.1.kids ∧ base ≤ l ∧ h ≤ w.heap.size ∧ ∀ g, v.ownBlock = some g → g < l ∨ h ≤ g
structure OwnK (n base : Nat) (el : TypeId) (w : World) (v : Value) (L : List (Fm × Value)) : Prop where
  row : w.ownsRow base el 3 v L.length (L.flatMap fmP)
  kid : ∀ p ∈ L, Away n base w v p
theorem OwnK.nil {n base : Nat} {el : TypeId} {w : World} : OwnK n base el w nilS [] := ⟨⟨rfl, .inl ⟨rfl, rfl⟩⟩, fun _ h => by cases h⟩
theorem Away.chg {n base : Nat} {w w' : World} {v v' : Value} {p : Fm × Value} {S : Nat → Prop} (h : Away n base w v p) (hc : Chg S w w') (hS : ∀ g, S g → g < w.heap.size → v.ownBlock = some g) (hv : ∀ g, v'.ownBlock = some g → v.ownBlock = some g ∨ w.heap.size ≤ g) : Away n base w' v' p := by
  obtain ⟨l, hh, h1, h2, h3, h4⟩ := h
  refine ⟨l, hh, h1.chg hc fun k hk1 hk2 hs => ?_, h2, Nat.le_trans h3 hc.size, fun g hg => ?_⟩
  · have := h4 k (hS k hs (by omega))
    omega
  · rcases hv g hg with h5 | h5
    · exact h4 g h5
    · omega
theorem OwnK.kp {n base : Nat} {el : TypeId} {w w' : World} {v : Value} {L : List (Fm × Value)} (h : OwnK n base el w v L) (k : Kp w w') : OwnK n base el w' v L :=
  ⟨ownsRow_chg h.row k (fun _ _ => id), fun p hp => (h.kid p hp).chg k (fun _ hs => hs.elim) fun _ hg => .inl hg⟩
theorem OwnK.le {n m base : Nat} {el : TypeId} {w : World} {v : Value} {L : List (Fm × Value)} (h : OwnK n base el w v L) (hm : n ≤ m) : OwnK m base el w v L :=
  ⟨h.row, fun p hp => by
    obtain ⟨l, hh, h1, h2⟩ := h.kid p hp
    exact ⟨l, hh, h1.le hm, h2⟩⟩
theorem OwnK.len {n base : Nat} {el : TypeId} {w : World} {v : Value} {L : List (Fm × Value)} (h : OwnK n base el w v L) : KidsN (n + 1) base w.heap.size w v (L.map (·.1)) := by
  refine RowE.map (·.1) (ownsRow_row (f := fmP) (fun _ => rfl) h.row (by decide)) ?_
  rintro p hp cs rfl
  obtain ⟨l, hh, h1, h2, h3, -⟩ := h.kid p hp
  exact ⟨p.2, rfl, h1.mono h2 h3⟩
theorem row_slice {w : World} {base size n : Nat} {el : TypeId} {v : Value} {xs : List Value} (h : w.ownsRow base el size v n xs) : ∃ a c, v = .slice a n c ∧ (n = 0 ∨ n ≤ c) ∧ ∀ g, v.ownBlock = some g → base ≤ g ∧ g < w.heap.size := by
  rcases h.2 with ⟨rfl, h0⟩ | ⟨g, cap, cur, rfl, a2, a3, a4, a5, a6, a7⟩
  · exact ⟨none, 0, by rw [h0], .inl h0, fun g hg => by cases hg⟩
  · refine ⟨_, cap, rfl, .inr a4, fun g' hg => ?_⟩
    have : g = g' := Option.some.inj hg
    subst this
    exact ⟨a2, lt_of_heap a3⟩
theorem OwnK.low {n base : Nat} {el : TypeId} {w w' : World} {v : Value} {L : List (Fm × Value)} {S : Nat → Prop} (h : OwnK n base el w v L) (hc : Chg S w w') (hS : ∀ g, S g → g < base) : OwnK n base el w' v L := by
  obtain ⟨a, c, -, -, hb⟩ := row_slice h.row
  refine ⟨ownsRow_chg h.row hc fun g hg hs => ?_, fun p hp => ?_⟩
  · have h1 := hb g hg
    have h2 := hS g hs
    omega
  · obtain ⟨l, hh, h1, h2, h3, h4⟩ := h.kid p hp
    refine ⟨l, hh, h1.chg hc fun k hk1 hk2 hs => ?_, h2, Nat.le_trans h3 hc.size, h4⟩
    have := hS k hs
    omega
/-- one more tree behind -/
theorem OwnK.push {n base : Nat} {el : TypeId} {w w' : World} {v v' : Value} {L : List (Fm × Value)} {p : Fm × Value} {l hh : Nat} (h : OwnK n base el w v L) (hk : KidsN n l hh w p.2 p.1.kids) (hl : base ≤ l) (hhw : hh ≤ w.heap.size) (hav : ∀ g, v.ownBlock = some g → g < l ∨ hh ≤ g)
    (hc : Chg (fun k => some k = v.ownBlock) w w') (hrow : w'.ownsRow base el 3 v' (L.length + 1) (L.flatMap fmP ++ fmP p)) (hv : ∀ g, v'.ownBlock = some g → v.ownBlock = some g ∨ w.heap.size ≤ g) : OwnK n base el w' v' (L ++ [p]) := by
  refine ⟨?_, fun q hq => ?_⟩
  · rw [List.length_append, List.flatMap_append]
    simpa using hrow
  · rcases List.mem_append.1 hq with hq | hq
    · exact (h.kid q hq).chg hc (fun g hg _ => hg.symm) hv
    · simp only [List.mem_singleton] at hq
      subst hq
      exact Away.chg (v := v) ⟨l, hh, hk, hl, hhw, hav⟩ hc (fun g hg _ => hg.symm) hv
end Go.Au

namespace Go.Au
open Go Go.RowKit

/-! ### Copy -/
theorem callCopy : callable Proofs.Tryz.prog 94 = true := by kernel_rfl
theorem map_fst_snoc {k : List Fm} {i : Nat} {x : Fm} {u : Value} {L : List (Fm × Value)} (h : L.map (·.1) = k.take i) (hx : k[i]? = some x) : (L ++ [(x, u)]).map (·.1) = k.take (i + 1) := by
  obtain ⟨hi, rfl⟩ := List.getElem?_eq_some_iff.1 hx
  rw [List.map_append, h, List.take_succ_eq_append_getElem hi]
  rfl
theorem copy_c : ∀ (n lo hi : Nat) (w : World) (v : Value) (f : Fm), KidsN n lo hi w v f.kids → f.size < 1000000000000 →
    Calls Proofs.Tryz.prog 94 [fmA f v].toArray w (Ret fun r w' => Kp w w' ∧ ∃ u, r = fmA f u ∧ KidsN n w.heap.size w'.heap.size w' u f.kids) := by
  intro n
  induction n using Nat.strongRecOn with
  | ind n ih =>
    intro lo hi w v f h hs
    obtain ⟨a, c, rfl, hc⟩ := h.slice
    have hkl := kids_le f.kids
    have hsz := size_kids f
    refine call agree Proofs.Tryz.func94 rfl Proofs.Tryz.ntmps94 (by kernel_rfl) ?_
    refine nd fun p w1 e1 s1 k1 m1 => ?_
    have m1 : Own w1 p 26 (fmC f (.slice a f.kids.length c)) := m1
    refine nd fun q w2 e2 s2 k2 m2 => ?_
    have m1 : Own w2 p 26 (fmC f (.slice a f.kids.length c)) := k2.own m1 id
    refine ld agree (Own.at_ (xs := [.int .u8 f.op]) m1 rfl) (by rfl) ?_
    refine ld agree (Own.at_ (xs := [.string f.name]) m1 rfl) (by rfl) ?_
    refine nd fun o w3 e3 s3 k3 m3 => ?_
    refine st agree m3 rfl (Nat.le_refl 3) rfl fun w4 e4 k4 m4 => ?_
    have m4 : Own w4 o 26 (fmC f nilS) := m4
    have k24 : Kp w2 w4 := k3.newS k4 (fun j hj => by subst hj; omega)
    have k04 : Kp w w4 := (k1.trans k2).trans k24
    have m1 := k24.own m1 id
    have m2 : Own w4 q 26 [.int .u8 0, .string ⟨#[]⟩, nilS] := k24.own m2 id
    refine ld agree (Own.at_ (xs := [.slice a f.kids.length c]) m1 rfl) (by rfl) ?_
    refine loop agree (σ := Nat × Value × List (Fm × Value)) (fun s => [(1, pt p 0), (2, pt q 0), (3, pt o 0), (12, .slice a f.kids.length c), (13, .int .i64 f.kids.length), (14, .int .i64 s.1)])
      (fun s w' => Kp w w' ∧ s.1 ≤ f.kids.length ∧ s.2.2.map (·.1) = f.kids.take s.1 ∧ Own w' q 26 [.int .u8 0, .string ⟨#[]⟩, nilS] ∧ Own w' o 26 (fmC f s.2.1) ∧ OwnK (n - 1) (o + 1) 26 w' s.2.1 s.2.2 ∧ w4.heap.size ≤ w'.heap.size) (fun s => f.kids.length - s.1) (0, nilS, [])
      ⟨rfl, rfl, rfl, rfl, rfl, rfl, trivial⟩ ⟨k04, by omega, rfl, m2, m4, OwnK.nil, Nat.le_refl _⟩ ?_
    rintro ⟨i, vo, L⟩ e0 w5 ⟨hk, hi, hL, mq, mo, hown, hz⟩
    simp only at hk hi hL mq mo hown
    have hlen : L.length = i := by
      have := congrArg List.length hL
      rw [List.length_map, List.length_take] at this
      omega
    refine sp (fun h1 => ?_) (fun h1 => ?_)
    · have hi' : i < f.kids.length := by omega
      have hx := List.getElem?_eq_getElem hi'
      generalize f.kids[i] = x at hx
      obtain _ | n := n
      · exact (h.kid0 hx).elim
      rw [Nat.add_sub_cancel] at hown
      obtain ⟨b, of, u, rfl, -, -, hrd, hku⟩ := h.kid hx
      obtain ⟨ua, uc, rfl, -⟩ := hku.slice
      refine ne ⟨by omega, h1⟩ ?_
      refine ld agree (hk.range hrd id) (by rfl) ?_
      refine nd fun m6 w6 e6 s6 k6 hm6 => ?_
      refine st agree hm6 rfl (Nat.le_refl 3) rfl fun w7 e7 k7 hm7 => ?_
      have hm7 : Own w7 m6 26 (fmC x (.slice ua x.kids.length uc)) := hm7
      have k57 : Kp w5 w7 := k6.newS k7 (fun j hj => by subst hj; omega)
      replace hk := hk.trans k57
      replace mq := k57.own mq id
      replace mo := k57.own mo id
      replace hown := hown.kp k57
      have hxm := List.mem_of_getElem? hx
      have hsx := Fm.sizes_mem hxm
      obtain ⟨ga, gc, rfl, -, hgb⟩ := row_slice hown.row
      refine drawnK agree mixed 5 [2, 3, 0, 1, 4] (by kernel_rfl) ?_
      conv => whnf
      refine ldk agree rfl rfl (fun W h _ => Own.at_ (xs := fmC x (.slice ua x.kids.length uc)) (h.own hm7 id) rfl) (by rfl) fun _ => ?_
      conv => whnf
      refine callf (τ := Value) (fun u => fmA x u) (fun u W => ∃ l hh, KidsN n l hh W u x.kids ∧ w7.heap.size ≤ l ∧ hh ≤ W.heap.size ∧ ∃ a c, u = .slice a x.kids.length c) rfl rfl rfl ?_ callCopy ?_ ?_
      · rintro y W W' ⟨l, hh, h1, h2, h3, h4⟩ hS
        exact ⟨l, hh, h1.kp hS, h2, Nat.le_trans h3 hS.size, h4⟩
      · intro W hW _
        refine (ih n (by omega) _ _ W _ x (hku.kp (hk.trans hW)) (by omega)).mono ?_
        intro e W' he
        cases e with
        | returned r =>
          obtain ⟨k, u, rfl, hu⟩ := he
          obtain ⟨ya, yc, hy, -⟩ := hu.slice
          exact ⟨k, u, rfl, _, _, hu, hW.size, Nat.le_refl _, ya, yc, hy⟩
        | _ => exact he
      intro u D hD
      conv => whnf
      refine ldk agree rfl rfl (fun W h _ => Own.at_ (xs := [.slice ga L.length gc]) (h.own mo id) rfl) (by rfl) fun _ => ?_
      conv => whnf
      refine bsk rfl rfl rfl rfl (by rfl) (by decide) fun q' D' hD' => ?_
      conv => whnf
      intro W hW h2
      obtain ⟨l, hh, hku', hl1, hl2, ya, yc, rfl⟩ := hD W (h2 3)
      obtain ⟨hq1, hq2⟩ := hD' W (h2 4)
      have hq1 : Own W q' 26 (fmC x (.slice ya x.kids.length yc)) := hq1
      have hkW := hk.trans hW
      have hownW := hown.kp hW
      have hzW := hW.size
      refine apP (m := 1) (news := fmC x (.slice ya x.kids.length yc)) agree rfl rfl rfl rfl rfl rfl rfl (by decide) hownW.row rfl (Own.at_ (o := 0) hq1 rfl) rfl (by simp only [maxLen]; omega) (by show (_ + 1) * 48 ≤ _; omega) (by omega) fun v' w8 hrow hc8 hnew _ => ?_
      have hnb : ∀ j, some j = (Value.slice ga L.length gc).ownBlock → o + 1 ≤ j := fun j hj => (hgb j hj.symm).1
      have mo8 : Own w8 o 26 (fmC f (.slice ga L.length gc)) := hc8.own (hW.own mo id) (fun hh => by have := hnb o hh; omega)
      have mq8 : Own w8 q 26 [.int .u8 0, .string ⟨#[]⟩, nilS] := hc8.own (hW.own mq id) (fun hh => by have := hnb q hh; omega)
      have k8 : Kp w w8 := hkW.newS hc8 (fun j hj => by have := hnb j hj; omega)
      have hpush : OwnK n (o + 1) 26 w8 v' (L ++ [(x, .slice ya x.kids.length yc)]) :=
        hownW.push (p := (x, .slice ya x.kids.length yc)) hku' (by omega) hl2 (fun g hg => by
          have := (hgb g hg).2
          exact .inl (by omega)) hc8 hrow hnew
      obtain ⟨vg, vc, rfl, -, -⟩ := row_slice hrow
      refine st agree mo8 rfl (Nat.le_refl 3) rfl fun w9 e9 k9 m9 => ?_
      have m9 : Own w9 o 26 (fmC f (.slice vg (L.length + 1) vc)) := m9
      refine aw (by omega) (by omega) ?_
      exact again (i + 1, Value.slice vg (L.length + 1) vc, L ++ [(x, Value.slice ya x.kids.length yc)]) ⟨rfl, rfl, rfl, rfl, rfl, rfl, trivial⟩ ⟨k8.newS k9 (fun j hj => by subst hj; omega), by show i + 1 ≤ _; omega, map_fst_snoc hL hx, k9.own mq8 (fun hh => by omega), m9, hpush.low k9 (fun g hg => by omega), by have := hc8.size; have := k57.size; omega⟩ (by show _ - (i + 1) < _ - i; omega)
    · have hil : i = f.kids.length := by omega
      subst hil
      rw [List.take_length] at hL
      obtain ⟨ga, gc, rfl, -, hgb⟩ := row_slice hown.row
      refine ld agree (Own.at_ (xs := fmC f (.slice ga L.length gc)) mo rfl) (by rfl) ?_
      refine st agree mq rfl (Nat.le_refl 3) rfl fun w9 e9 k9 m9 => ?_
      have m9 : Own w9 q 26 (fmC f (.slice ga L.length gc)) := m9
      refine ld agree (Own.at_ (xs := fmC f (.slice ga L.length gc)) m9 rfl) (by rfl) ?_
      have hfin := (hown.low k9 (fun g hg => by omega)).len
      rw [hL] at hfin
      refine ⟨hk.newS k9 (fun j hj => by subst hj; omega), _, rfl, ?_⟩
      cases n with
      | zero =>
        have hk0 : f.kids = [] := by
          cases hk0 : f.kids with
          | nil => rfl
          | cons x r =>
            exact (h.kid0 (i := 0) (x := x) (by rw [hk0]; rfl)).elim
        rw [hk0] at hfin ⊢
        have hl0 : L.length = 0 := by rw [hlen, hk0]; rfl
        rw [hl0]
        exact ⟨ga, gc, rfl, Nat.zero_le _, fun i x hx => by cases hx⟩
      | succ n => exact hfin.mono (by omega) (Nat.le_refl _)
end Go.Au

namespace Go.Proofs
open Go.Shelf
def Tryz.sortInts_ren : Go.Shelf.Ren := ⟨fun | 5 => 141 | 8 => 169 | 7 => 172 | 19 => 203 | 20 => 204 | 10 => 214 | 11 => 215 | 12 => 216 | 13 => 217 | 14 => 218 | 15 => 219 | 16 => 220 | 17 => 221 | 18 => 222 | 30 => 243 | 31 => 236 | 32 => 237 | 33 => 244 | 34 => 245 | 35 => 158 | 40 => 270 | n => n, fun | 23 => 38 | 25 => 3 | 3 => 3 | 32 => 148 | 22 => 38 | 0 => 0 | 44 => 274 | 46 => 116 | 4 => 4 | 36 => 268 | 35 => 267 | 41 => 175 | 5 => 5 | 9 => 9 | 53 => 298 | 57 => 302 | 63 => 314 | 64 => 289 | n => n, fun | n => n⟩
theorem Tryz.sortInts : Go.Proofs.SlLaysM.n5 Tryz.prog Tryz.sortInts_ren := {
  mixed := by kernel_rfl
  f5 := ⟨Tryz.f141.name, by decide, Tryz.func141.trans (congrArg some (by kernel_rfl))⟩
  f7 := ⟨Tryz.f172.name, by decide, Tryz.func172.trans (congrArg some (by kernel_rfl))⟩
  f8 := Tryz.func169.trans (congrArg some (by kernel_rfl))
  f10 := ⟨Tryz.f214.name, by decide, Tryz.func214.trans (congrArg some (by kernel_rfl))⟩
  f11 := ⟨Tryz.f215.name, by decide, Tryz.func215.trans (congrArg some (by kernel_rfl))⟩
  f12 := ⟨Tryz.f216.name, by decide, Tryz.func216.trans (congrArg some (by kernel_rfl))⟩
  f13 := ⟨Tryz.f217.name, by decide, Tryz.func217.trans (congrArg some (by kernel_rfl))⟩
  f14 := ⟨Tryz.f218.name, by decide, Tryz.func218.trans (congrArg some (by kernel_rfl))⟩
  f15 := ⟨Tryz.f219.name, by decide, Tryz.func219.trans (congrArg some (by kernel_rfl))⟩
  f16 := ⟨Tryz.f220.name, by decide, Tryz.func220.trans (congrArg some (by kernel_rfl))⟩
  f17 := ⟨Tryz.f221.name, by decide, Tryz.func221.trans (congrArg some (by kernel_rfl))⟩
  f18 := ⟨Tryz.f222.name, by decide, Tryz.func222.trans (congrArg some (by kernel_rfl))⟩
  f19 := Tryz.func203.trans (congrArg some (by kernel_rfl))
  f20 := Tryz.func204.trans (congrArg some (by kernel_rfl))
  f30 := ⟨Tryz.f243.name, by decide, Tryz.func243.trans (congrArg some (by kernel_rfl))⟩
  f31 := Tryz.func236.trans (congrArg some (by kernel_rfl))
  f32 := Tryz.func237.trans (congrArg some (by kernel_rfl))
  f33 := ⟨Tryz.f244.name, by decide, Tryz.func244.trans (congrArg some (by kernel_rfl))⟩
  f34 := ⟨Tryz.f245.name, by decide, Tryz.func245.trans (congrArg some (by kernel_rfl))⟩
  f35 := ⟨Tryz.f158.name, by decide, Tryz.func158.trans (congrArg some (by kernel_rfl))⟩
  f40 := ⟨Tryz.f270.name, by decide, Tryz.func270.trans (congrArg some (by kernel_rfl))⟩
  t0 := Tryz.underlying0
  a0 := Tryz.isAgg0
  z0 := Tryz.sizeOf0
  v0 := Tryz.zeroValue0
  t3 := Tryz.underlying3
  a3 := Tryz.isAgg3
  z3 := Tryz.sizeOf3
  v3 := Tryz.zeroValue3
  t4 := Tryz.underlying4
  a4 := Tryz.isAgg4
  z4 := Tryz.sizeOf4
  v4 := Tryz.zeroValue4
  t5 := Tryz.underlying5
  a5 := Tryz.isAgg5
  z5 := Tryz.sizeOf5
  v5 := Tryz.zeroValue5
  t9 := Tryz.underlying9
  a9 := Tryz.isAgg9
  z9 := Tryz.sizeOf9
  v9 := Tryz.zeroValue9
  t22 := Tryz.underlying38
  a22 := Tryz.isAgg38
  z22 := Tryz.sizeOf38
  v22 := Tryz.zeroValue38
  t23 := Tryz.underlying38
  a23 := Tryz.isAgg38
  z23 := Tryz.sizeOf38
  v23 := Tryz.zeroValue38
  t25 := Tryz.underlying3
  a25 := Tryz.isAgg3
  z25 := Tryz.sizeOf3
  v25 := Tryz.zeroValue3
  t32 := Tryz.underlying148
  a32 := Tryz.isAgg148
  z32 := Tryz.sizeOf148
  v32 := Tryz.zeroValue148
  t35 := Tryz.underlying267
  a35 := Tryz.isAgg267
  z35 := Tryz.sizeOf267
  v35 := Tryz.zeroValue267
  t36 := Tryz.underlying268
  a36 := Tryz.isAgg268
  z36 := Tryz.sizeOf268
  v36 := Tryz.zeroValue268
  t41 := Tryz.underlying175
  a41 := Tryz.isAgg175
  z41 := Tryz.sizeOf175
  v41 := Tryz.zeroValue175
  t44 := Tryz.underlying274
  a44 := Tryz.isAgg274
  z44 := Tryz.sizeOf274
  v44 := Tryz.zeroValue274
  t46 := Tryz.underlying116
  a46 := Tryz.isAgg116
  z46 := Tryz.sizeOf116
  v46 := Tryz.zeroValue116
  t53 := Tryz.underlying298
  a53 := Tryz.isAgg298
  z53 := Tryz.sizeOf298
  v53 := Tryz.zeroValue298
  t57 := Tryz.underlying302
  a57 := Tryz.isAgg302
  z57 := Tryz.sizeOf302
  v57 := Tryz.zeroValue302
  t63 := Tryz.underlying314
  a63 := Tryz.isAgg314
  z63 := Tryz.sizeOf314
  v63 := Tryz.zeroValue314
  t64 := Tryz.underlying289
  a64 := Tryz.isAgg289
  z64 := Tryz.sizeOf289
  v64 := Tryz.zeroValue289 }
def Tryz.sortSized_ren : Go.Shelf.Ren := ⟨fun | 6 => 131 | 15 => 169 | 14 => 168 | 28 => 203 | 29 => 204 | 20 => 195 | 21 => 196 | 22 => 197 | 23 => 198 | 24 => 199 | 25 => 200 | 26 => 201 | 27 => 202 | 46 => 235 | 47 => 236 | 48 => 237 | 49 => 238 | 50 => 239 | 57 => 268 | n => n, fun | 22 => 182 | 24 => 186 | 25 => 187 | 3 => 3 | 39 => 148 | 0 => 0 | 53 => 274 | 55 => 116 | 4 => 4 | 46 => 268 | 45 => 267 | 50 => 175 | 5 => 5 | 9 => 9 | 66 => 298 | 70 => 302 | 76 => 314 | 77 => 289 | n => n, fun | n => n⟩
theorem Tryz.sortSized : Go.Proofs.SlLaysF0.n6 Tryz.prog Tryz.sortSized_ren := {
  mixed := by kernel_rfl
  f6 := ⟨Tryz.f131.name, by decide, Tryz.func131.trans (congrArg some (by kernel_rfl))⟩
  f14 := ⟨Tryz.f168.name, by decide, Tryz.func168.trans (congrArg some (by kernel_rfl))⟩
  f15 := Tryz.func169.trans (congrArg some (by kernel_rfl))
  f20 := ⟨Tryz.f195.name, by decide, Tryz.func195.trans (congrArg some (by kernel_rfl))⟩
  f21 := ⟨Tryz.f196.name, by decide, Tryz.func196.trans (congrArg some (by kernel_rfl))⟩
  f22 := ⟨Tryz.f197.name, by decide, Tryz.func197.trans (congrArg some (by kernel_rfl))⟩
  f23 := ⟨Tryz.f198.name, by decide, Tryz.func198.trans (congrArg some (by kernel_rfl))⟩
  f24 := ⟨Tryz.f199.name, by decide, Tryz.func199.trans (congrArg some (by kernel_rfl))⟩
  f25 := ⟨Tryz.f200.name, by decide, Tryz.func200.trans (congrArg some (by kernel_rfl))⟩
  f26 := ⟨Tryz.f201.name, by decide, Tryz.func201.trans (congrArg some (by kernel_rfl))⟩
  f27 := ⟨Tryz.f202.name, by decide, Tryz.func202.trans (congrArg some (by kernel_rfl))⟩
  f28 := Tryz.func203.trans (congrArg some (by kernel_rfl))
  f29 := Tryz.func204.trans (congrArg some (by kernel_rfl))
  f46 := ⟨Tryz.f235.name, by decide, Tryz.func235.trans (congrArg some (by kernel_rfl))⟩
  f47 := Tryz.func236.trans (congrArg some (by kernel_rfl))
  f48 := Tryz.func237.trans (congrArg some (by kernel_rfl))
  f49 := ⟨Tryz.f238.name, by decide, Tryz.func238.trans (congrArg some (by kernel_rfl))⟩
  f50 := ⟨Tryz.f239.name, by decide, Tryz.func239.trans (congrArg some (by kernel_rfl))⟩
  f57 := ⟨Tryz.f268.name, by decide, Tryz.func268.trans (congrArg some (by kernel_rfl))⟩
  t0 := Tryz.underlying0
  a0 := Tryz.isAgg0
  z0 := Tryz.sizeOf0
  v0 := Tryz.zeroValue0
  t3 := Tryz.underlying3
  a3 := Tryz.isAgg3
  z3 := Tryz.sizeOf3
  v3 := Tryz.zeroValue3
  t4 := Tryz.underlying4
  a4 := Tryz.isAgg4
  z4 := Tryz.sizeOf4
  v4 := Tryz.zeroValue4
  t5 := Tryz.underlying5
  a5 := Tryz.isAgg5
  z5 := Tryz.sizeOf5
  v5 := Tryz.zeroValue5
  t9 := Tryz.underlying9
  a9 := Tryz.isAgg9
  z9 := Tryz.sizeOf9
  v9 := Tryz.zeroValue9
  t22 := Tryz.underlying182
  a22 := Tryz.isAgg182
  z22 := Tryz.sizeOf182
  v22 := Tryz.zeroValue182
  t25 := Tryz.underlying187
  a25 := Tryz.isAgg187
  z25 := Tryz.sizeOf187
  v25 := Tryz.zeroValue187
  t39 := Tryz.underlying148
  a39 := Tryz.isAgg148
  z39 := Tryz.sizeOf148
  v39 := Tryz.zeroValue148
  t45 := Tryz.underlying267
  a45 := Tryz.isAgg267
  z45 := Tryz.sizeOf267
  v45 := Tryz.zeroValue267
  t46 := Tryz.underlying268
  a46 := Tryz.isAgg268
  z46 := Tryz.sizeOf268
  v46 := Tryz.zeroValue268
  t50 := Tryz.underlying175
  a50 := Tryz.isAgg175
  z50 := Tryz.sizeOf175
  v50 := Tryz.zeroValue175
  t53 := Tryz.underlying274
  a53 := Tryz.isAgg274
  z53 := Tryz.sizeOf274
  v53 := Tryz.zeroValue274
  t55 := Tryz.underlying116
  a55 := Tryz.isAgg116
  z55 := Tryz.sizeOf116
  v55 := Tryz.zeroValue116
  t66 := Tryz.underlying298
  a66 := Tryz.isAgg298
  z66 := Tryz.sizeOf298
  v66 := Tryz.zeroValue298
  t70 := Tryz.underlying302
  a70 := Tryz.isAgg302
  z70 := Tryz.sizeOf302
  v70 := Tryz.zeroValue302
  t76 := Tryz.underlying314
  a76 := Tryz.isAgg314
  z76 := Tryz.sizeOf314
  v76 := Tryz.zeroValue314
  t77 := Tryz.underlying289
  a77 := Tryz.isAgg289
  z77 := Tryz.sizeOf289
  v77 := Tryz.zeroValue289 }
def Tryz.sortPairs_ren : Go.Shelf.Ren := ⟨fun | 6 => 138 | 15 => 169 | 14 => 170 | 28 => 203 | 29 => 204 | 20 => 205 | 21 => 206 | 22 => 207 | 23 => 208 | 24 => 209 | 25 => 210 | 26 => 211 | 27 => 212 | 46 => 240 | 47 => 236 | 48 => 237 | 49 => 241 | 50 => 242 | 57 => 269 | n => n, fun | 22 => 108 | 24 => 120 | 25 => 195 | 3 => 3 | 39 => 148 | 0 => 0 | 53 => 274 | 55 => 116 | 4 => 4 | 46 => 268 | 45 => 267 | 50 => 175 | 5 => 5 | 9 => 9 | 66 => 298 | 70 => 302 | 76 => 314 | 77 => 289 | n => n, fun | n => n⟩
theorem Tryz.sortPairs : Go.Proofs.SlLaysF0.n6 Tryz.prog Tryz.sortPairs_ren := {
  mixed := by kernel_rfl
  f6 := ⟨Tryz.f138.name, by decide, Tryz.func138.trans (congrArg some (by kernel_rfl))⟩
  f14 := ⟨Tryz.f170.name, by decide, Tryz.func170.trans (congrArg some (by kernel_rfl))⟩
  f15 := Tryz.func169.trans (congrArg some (by kernel_rfl))
  f20 := ⟨Tryz.f205.name, by decide, Tryz.func205.trans (congrArg some (by kernel_rfl))⟩
  f21 := ⟨Tryz.f206.name, by decide, Tryz.func206.trans (congrArg some (by kernel_rfl))⟩
  f22 := ⟨Tryz.f207.name, by decide, Tryz.func207.trans (congrArg some (by kernel_rfl))⟩
  f23 := ⟨Tryz.f208.name, by decide, Tryz.func208.trans (congrArg some (by kernel_rfl))⟩
  f24 := ⟨Tryz.f209.name, by decide, Tryz.func209.trans (congrArg some (by kernel_rfl))⟩
  f25 := ⟨Tryz.f210.name, by decide, Tryz.func210.trans (congrArg some (by kernel_rfl))⟩
  f26 := ⟨Tryz.f211.name, by decide, Tryz.func211.trans (congrArg some (by kernel_rfl))⟩
  f27 := ⟨Tryz.f212.name, by decide, Tryz.func212.trans (congrArg some (by kernel_rfl))⟩
  f28 := Tryz.func203.trans (congrArg some (by kernel_rfl))
  f29 := Tryz.func204.trans (congrArg some (by kernel_rfl))
  f46 := ⟨Tryz.f240.name, by decide, Tryz.func240.trans (congrArg some (by kernel_rfl))⟩
  f47 := Tryz.func236.trans (congrArg some (by kernel_rfl))
  f48 := Tryz.func237.trans (congrArg some (by kernel_rfl))
  f49 := ⟨Tryz.f241.name, by decide, Tryz.func241.trans (congrArg some (by kernel_rfl))⟩
  f50 := ⟨Tryz.f242.name, by decide, Tryz.func242.trans (congrArg some (by kernel_rfl))⟩
  f57 := ⟨Tryz.f269.name, by decide, Tryz.func269.trans (congrArg some (by kernel_rfl))⟩
  t0 := Tryz.underlying0
  a0 := Tryz.isAgg0
  z0 := Tryz.sizeOf0
  v0 := Tryz.zeroValue0
  t3 := Tryz.underlying3
  a3 := Tryz.isAgg3
  z3 := Tryz.sizeOf3
  v3 := Tryz.zeroValue3
  t4 := Tryz.underlying4
  a4 := Tryz.isAgg4
  z4 := Tryz.sizeOf4
  v4 := Tryz.zeroValue4
  t5 := Tryz.underlying5
  a5 := Tryz.isAgg5
  z5 := Tryz.sizeOf5
  v5 := Tryz.zeroValue5
  t9 := Tryz.underlying9
  a9 := Tryz.isAgg9
  z9 := Tryz.sizeOf9
  v9 := Tryz.zeroValue9
  t22 := Tryz.underlying108
  a22 := Tryz.isAgg108
  z22 := Tryz.sizeOf108
  v22 := Tryz.zeroValue108
  t25 := Tryz.underlying195
  a25 := Tryz.isAgg195
  z25 := Tryz.sizeOf195
  v25 := Tryz.zeroValue195
  t39 := Tryz.underlying148
  a39 := Tryz.isAgg148
  z39 := Tryz.sizeOf148
  v39 := Tryz.zeroValue148
  t45 := Tryz.underlying267
  a45 := Tryz.isAgg267
  z45 := Tryz.sizeOf267
  v45 := Tryz.zeroValue267
  t46 := Tryz.underlying268
  a46 := Tryz.isAgg268
  z46 := Tryz.sizeOf268
  v46 := Tryz.zeroValue268
  t50 := Tryz.underlying175
  a50 := Tryz.isAgg175
  z50 := Tryz.sizeOf175
  v50 := Tryz.zeroValue175
  t53 := Tryz.underlying274
  a53 := Tryz.isAgg274
  z53 := Tryz.sizeOf274
  v53 := Tryz.zeroValue274
  t55 := Tryz.underlying116
  a55 := Tryz.isAgg116
  z55 := Tryz.sizeOf116
  v55 := Tryz.zeroValue116
  t66 := Tryz.underlying298
  a66 := Tryz.isAgg298
  z66 := Tryz.sizeOf298
  v66 := Tryz.zeroValue298
  t70 := Tryz.underlying302
  a70 := Tryz.isAgg302
  z70 := Tryz.sizeOf302
  v70 := Tryz.zeroValue302
  t76 := Tryz.underlying314
  a76 := Tryz.isAgg314
  z76 := Tryz.sizeOf314
  v76 := Tryz.zeroValue314
  t77 := Tryz.underlying289
  a77 := Tryz.isAgg289
  z77 := Tryz.sizeOf289
  v77 := Tryz.zeroValue289 }
end Go.Proofs

namespace Go.Au
open Go Go.RowKit Go.Sort Go.Lib

/-! ### the library's sort, laid -/
theorem flatK_list {α : Type} [Inhabited α] {enc : α → List Value} {k : Nat} (hk : ∀ x, (enc x).length = k) (d : Array α) : (flatK enc k d).toList = d.toList.flatMap enc := by
  rcases Nat.eq_zero_or_pos k with h0 | h0
  · subst h0
    have h1 : d.toList.flatMap enc = [] := by
      rw [List.flatMap_eq_nil_iff]
      intro x _
      exact List.eq_nil_of_length_eq_zero (hk x)
    rw [h1]
    apply List.eq_nil_of_length_eq_zero
    simp
  · apply List.ext_getElem?
    intro t
    by_cases ht : t < d.size * k
    · have hq : t / k < d.size := Nat.div_lt_of_lt_mul (by rw [Nat.mul_comm]; exact ht)
      have hr : t % k < k := Nat.mod_lt _ h0
      have hx : d.toList[t / k]? = some d[t / k] := by simp [hq]
      have h2 := flat_get hk d.toList (t / k) d[t / k] hx (t % k) hr
      rw [show t / k * k + t % k = t by rw [Nat.mul_comm]; exact Nat.div_add_mod t k] at h2
      rw [h2]
      have h3 := get_flatK enc k d t ht
      rw [getElem!_pos _ t (by simpa using ht), getElem!_pos d _ hq, getElem!_pos _ (t % k) (by rw [hk]; exact hr)] at h3
      rw [Array.getElem?_toList, Array.getElem?_eq_getElem (by simpa using ht), h3, List.getElem?_eq_getElem (by rw [hk]; exact hr)]
    · rw [List.getElem?_eq_none (by simpa using ht), List.getElem?_eq_none (by rw [flat_len hk]; simpa using ht)]
theorem kp_grow {W w' : World} (k : Kp W w') : ∃ q os, w' = grow (W.drewN q) os := by
  refine ⟨w'.drawn - W.drawn, w'.heap.extract W.heap.size w'.heap.size, ?_⟩
  obtain ⟨k1, k2, k3, k4, k5, k6⟩ := k
  obtain ⟨heap, tape, drawn, os, output⟩ := w'
  obtain ⟨heap0, tape0, drawn0, os0, output0⟩ := W
  simp only at k1 k2 k3 k4 k5 k6
  subst k1 k2 k4
  unfold grow World.drewN
  simp only [World.mk.injEq, true_and, and_true]
  refine ⟨?_, by omega⟩
  apply Array.ext_getElem?
  intro i
  rw [Array.getElem?_append]
  split
  · rename_i hi; exact k6 i hi id
  · rename_i hi
    rw [Array.getElem?_extract]
    split
    · congr 1; omega
    · rw [Array.getElem?_eq_none (by omega)]
theorem sort_world {w : World} {base size n g cap : Nat} {el : TypeId} {xs : List Value} (h : w.ownsRow base el size (.slice (some ⟨g, 0, none⟩) n cap) n xs) (F : Array Value) (hF : F.size = n * size) (m : Nat) (os : Array Obj) :
    Chg (fun j => j = g) w (grow (putRow id (Sort.ahead w m) g 0 F) os) ∧ (grow (putRow id (Sort.ahead w m) g 0 F) os).ownsRow base el size (.slice (some ⟨g, 0, none⟩) n cap) n F.toList := by
  rcases h.2 with ⟨h0, _⟩ | ⟨g', cap', cur, h0, h1, h2, h3, h4, h5, h6⟩
  · cases h0
  injection h0 with h0 _ h0'
  injection h0 with h0
  injection h0 with h0
  subst h0 h0'
  have hlt := lt_of_heap h2
  have hsz : (grow (putRow id (Sort.ahead w m) g 0 F) os).heap = (w.heap.modify g (onCells (putCells id 0 F))) ++ os := rfl
  have hcs : n * size ≤ cap * size := Nat.mul_le_mul_right _ h3
  refine ⟨⟨rfl, rfl, Nat.le_add_right _ _, rfl, ?_, fun k hk hn => ?_⟩, by simpa using hF, .inr ⟨g, cap, putCells id 0 F cur, rfl, h1, ?_, h3, h4, by simpa [putCells] using h5, ?_⟩⟩
  · rw [hsz]; simp
  · rw [hsz, Array.getElem?_append, if_pos (by simpa using hk), Array.getElem?_modify, if_neg (Ne.symm hn)]
  · rw [hsz, Array.getElem?_append, if_pos (by simpa using hlt), Array.getElem?_modify, if_pos rfl, h2]; rfl
  · apply List.ext_getElem?
    intro i
    rw [List.getElem?_take]
    split
    · rename_i hi
      have hi2 : i < cur.size := by rw [h5]; omega
      rw [Array.getElem?_toList, Array.getElem?_toList]
      simp only [putCells, Array.getElem?_mapIdx]
      rw [Array.getElem?_eq_getElem hi2, Array.getElem?_eq_getElem (by omega)]
      simp only [Option.map_some]
      rw [if_pos ⟨Nat.zero_le _, by omega⟩, Nat.sub_zero, getElem!_pos F i (by omega)]
      rfl
    · rename_i hi
      rw [List.getElem?_eq_none (by simp; omega)]
theorem row_holds {w : World} {base size n g cap : Nat} {el : TypeId} {xs : List Value} (h : w.ownsRow base el size (.slice (some ⟨g, 0, none⟩) n cap) n xs) : Holds id w g 0 xs.toArray := by
  rcases h.2 with ⟨h0, _⟩ | ⟨g', cap', cur, h0, h1, h2, h3, h4, h5, h6⟩
  · cases h0
  injection h0 with h0 _ h0'
  injection h0 with h0
  injection h0 with h0
  subst h0 h0'
  intro j hj
  have hj : j < xs.length := by simpa using hj
  have hjn : j < n * size := by have := h.1; omega
  have hx : cur[j]? = some xs[j] := by
    have : xs[j]? = cur.toList[j]? := by rw [← h6, List.getElem?_take, if_pos hjn]
    rw [List.getElem?_eq_getElem hj, Array.getElem?_toList] at this
    exact this.symm
  refine ⟨?_, ?_⟩
  · simp only [World.cell?, h2, Nat.zero_add]
    simp [hx, hj]
  · simp only [World.frozen?, h2, Nat.zero_add]
    simp
theorem putRow_enc {α : Type} [Inhabited α] (enc : α → Value) (w : World) (g : Nat) (d : Array α) : putRow enc w g 0 d = putRow id w g 0 (d.map enc) := by
  unfold putRow
  congr 1
  funext c
  unfold putCells
  apply Array.ext_getElem?
  intro i
  simp only [Array.getElem?_mapIdx]
  cases c[i]? with
  | none => rfl
  | some x =>
    simp only [Option.map_some, Array.size_map]
    congr 1
    by_cases h : 0 ≤ i ∧ i < 0 + d.size
    · rw [if_pos h, if_pos h, Nat.sub_zero, getElem!_pos d i (by omega), getElem!_pos _ i (by simp; omega)]
      simp
    · rw [if_neg h, if_neg h]
end Go.Au

namespace Go.Au
open Go Go.RowKit Go.Sort Go.Lib Go.Proofs

/-! ### the library's sorts, at ints and at trees with their sizes -/
abbrev fN1 (x : Int) : List Value := [.int .i64 x]
theorem ints_map (xs : List Int) : xs.flatMap fN1 = xs.map (Value.int .i64) := by induction xs <;> simp_all
theorem callSortInts : callable Proofs.Tryz.prog 141 = true := by kernel_rfl
theorem sortInts_c {w : World} {base : Nat} {v : Value} {xs : List Int} (h : w.ownsRow base 3 1 v xs.length (xs.flatMap fN1)) (hl : xs.length < 4611686018427387904) :
    Calls Proofs.Tryz.prog 141 [v].toArray w (Ret fun _ w' => Chg (fun j => some j = v.ownBlock) w w' ∧ w'.ownsRow base 3 1 v xs.length ((xs.mergeSort fun x y => decide (x ≤ y)).flatMap fN1)) := by
  have h' := h
  rcases h'.2 with ⟨rfl, h0⟩ | ⟨g, cap, cur, rfl, -, h2, -⟩
  · have hx : xs = [] := List.eq_nil_of_length_eq_zero h0
    subst hx
    have hc := AnyM.slices_Sort_int_none Proofs.Tryz.sortInts none 0 w
    refine Calls.mono hc fun e w' ⟨he, hw⟩ => ?_
    subst he hw
    exact ⟨Chg.refl _ _, by rw [List.mergeSort_nil]; exact h⟩
  · have hH : Holds (Value.int .i64) w g 0 xs.toArray := by
      have := row_holds h
      rw [ints_map] at this
      intro j hj
      have hj' : j < xs.length := by simpa using hj
      have h3 := this j (by simpa using hj)
      rw [getElem!_pos _ j (by simpa using hj)] at h3
      rw [getElem!_pos _ j hj]
      simpa using h3
    have hc := AnyM.slices_Sort_int Proofs.Tryz.sortInts g 0 cap xs w hH (lt_of_heap h2) hl
    refine Calls.mono hc fun e w' ⟨he, m, os, hw⟩ => ?_
    subst he
    rw [putRow_enc] at hw
    have hs := sort_world h ((xs.mergeSort fun x y => decide (x ≤ y)).toArray.map (Value.int .i64)) (by simp) m os
    rw [← hw] at hs
    refine ⟨hs.1.mono fun j hj => by subst hj; rfl, ?_⟩
    have h4 := hs.2
    rw [ints_map]
    simpa using h4

theorem sub_list {α : Type} {P : α → Prop} : ∀ {L : List α}, (∀ p ∈ L, P p) → ∃ xs : List { p // P p }, xs.map (·.1) = L
  | [], _ => ⟨[], rfl⟩
  | a :: r, h => by
    obtain ⟨xs, hx⟩ := sub_list (L := r) fun p hp => h p (by simp [hp])
    exact ⟨⟨a, h a (by simp)⟩ :: xs, by rw [List.map_cons, hx]⟩
abbrev Sz := Fm × Value
def szC (p : Sz) : List Value := [.int .u8 p.1.op, .string p.1.name, p.2, .int .i64 p.1.size]
theorem szC_len (p : Sz) : (szC p).length = 4 := rfl
abbrev szA (p : Sz) : Value := .agg (szC p).toArray
theorem callOrd : callable Proofs.Tryz.prog 130 = true := by kernel_rfl
theorem ord_c {n lo hi : Nat} {w : World} {p q : Sz} (hp : KidsN n lo hi w p.2 p.1.kids) (hq : KidsN n lo hi w q.2 q.1.kids) (hs : p.1.size < 4611686018427387904) :
    Calls Proofs.Tryz.prog 130 [szA p, szA q].toArray w (Ret fun r w' => r = .int .i64 (Fm.ord p.1 q.1) ∧ Kp w w') := by
  obtain ⟨f, u⟩ := p
  obtain ⟨g, v⟩ := q
  simp only at hp hq hs
  obtain ⟨ua, uc, rfl, -⟩ := hp.slice
  obtain ⟨va, vc, rfl, -⟩ := hq.slice
  refine call agree Proofs.Tryz.func130 rfl Proofs.Tryz.ntmps130 (by kernel_rfl) ?_
  refine nd fun p w1 e1 s1 k1 m1 => ?_
  refine nd fun q w2 e2 s2 k2 m2 => ?_
  have A : ∀ W, Kp w2 W → Own W p 186 (szC (f, .slice ua f.kids.length uc)) := fun W h => h.heap (k2.heap m1 id) id
  have B : ∀ W, Kp w2 W → Own W q 186 (szC (g, .slice va g.kids.length vc)) := fun W h => h.heap m2 id
  refine drawn0 agree mixed 13 (by kernel_rfl) (fun _ => False) ?_
  conv => whnf
  refine ldk agree rfl rfl (fun W h _ => Own.at_ (xs := [.int .i64 f.size]) (A W h) rfl) (by rfl) fun _ => ?_
  conv => whnf
  refine ldk agree rfl rfl (fun W h _ => Own.at_ (xs := [.int .i64 g.size]) (B W h) rfl) (by rfl) fun _ => ?_
  conv => whnf
  refine callk rfl rfl rfl callCompi (fun W _ _ => compi_c W f.size g.size) fun _ => ?_
  conv => whnf
  refine ldk agree rfl rfl (fun W h _ => Own.at_ (xs := fmC f (.slice ua f.kids.length uc)) (A W h) rfl) (by rfl) fun _ => ?_
  conv => whnf
  refine ldk agree rfl rfl (fun W h _ => Own.at_ (xs := fmC g (.slice va g.kids.length vc)) (B W h) rfl) (by rfl) fun _ => ?_
  conv => whnf
  refine callk rfl rfl rfl callCmp (fun W h _ => cmp_c n lo hi lo hi W _ _ f g (hp.kp (k1.trans (k2.trans h))) (hq.kp (k1.trans (k2.trans h))) hs) fun _ => ?_
  conv => whnf
  refine bsk rfl rfl rfl rfl (by rfl) (by decide) fun q' D hD => ?_
  conv => whnf
  refine callk rfl rfl rfl callOr (fun W h1 h2 => or_c (xs := [cmp3 f.size g.size, Fm.cmp f g]) (lo := q') (hi := q' + 1) (row1 (hD W (h2 10 (by kernel_rfl))).1 rfl rfl (by decide) (by omega) (by omega)) (by simp)) fun D2 => ?_
  conv => whnf
  intro W hW _
  rw [firstOf2, cmp3_nat]
  exact ⟨rfl, k1.trans (k2.trans hW)⟩
abbrev SzIn (n lo hi : Nat) (w : World) : Type := { p : Sz // KidsN n lo hi w p.2 p.1.kids ∧ p.1.size < 4611686018427387904 }
instance {n lo hi : Nat} {w : World} : Inhabited (SzIn n lo hi w) := ⟨⟨(.mk 1 ⟨#[]⟩ [], nilS), ⟨none, 0, rfl, Nat.le_refl _, fun i x hx => by cases hx⟩, by decide⟩⟩
theorem ordLt {n lo hi : Nat} {w : World} (x y : SzIn n lo hi w) : ltOf (fun x y : SzIn n lo hi w => Fm.ord x.1.1 y.1.1) x y = decide (Fm.ord x.1.1 y.1.1 < 0) := rfl
theorem ord_swo (n lo hi : Nat) (w : World) : SWO (ltOf (fun x y : SzIn n lo hi w => Fm.ord x.1.1 y.1.1)) where
  irrefl x := by rw [ordLt, Fm.ord_self]; rfl
  trans x y z h1 h2 := by
    rw [ordLt, decide_eq_true_eq] at *
    exact Fm.ord_lt_trans h1 h2
  ntrans x y z h1 h2 := by
    rw [ordLt, decide_eq_false_iff_not] at *
    have n1 := Fm.ord_neg x.1.1 y.1.1
    have n2 := Fm.ord_neg y.1.1 z.1.1
    have n3 := Fm.ord_neg x.1.1 z.1.1
    have := Fm.ord_trans (f := z.1.1) (g := y.1.1) (h := x.1.1) (by omega) (by omega)
    omega
theorem callSortSz : callable Proofs.Tryz.prog 131 = true := by kernel_rfl
theorem sortSz_c {n lo hi base : Nat} {w : World} {v : Value} {L : List Sz} (h : w.ownsRow base 186 4 v L.length (L.flatMap szC)) (hl : L.length < 4611686018427387904) (hk : ∀ p ∈ L, KidsN n lo hi w p.2 p.1.kids ∧ p.1.size < 4611686018427387904) (hb : hi ≤ base) :
    Calls Proofs.Tryz.prog 131 [v, .func (.func 130) #[] #[]].toArray w (Ret fun _ w' => Chg (fun j => some j = v.ownBlock) w w' ∧ ∃ L' : List Sz, L'.Perm L ∧ L'.Pairwise (fun a b => Fm.ord a.1 b.1 ≤ 0) ∧ w'.ownsRow base 186 4 v L.length (L'.flatMap szC)) := by
  have h' := h
  rcases h'.2 with ⟨rfl, h0⟩ | ⟨g, cap, cur, rfl, hg0, h2, -⟩
  · have hx : L = [] := List.eq_nil_of_length_eq_zero h0
    subst hx
    have hc := AnyF.slices_SortFunc_none Proofs.Tryz.sortSized none 0 (.func (.func 130) #[] #[]) w
    refine Calls.mono hc fun e w' ⟨he, hw⟩ => ?_
    subst he hw
    exact ⟨Chg.refl _ _, [], List.Perm.refl _, List.Pairwise.nil, h⟩
  · obtain ⟨xs, hxs⟩ : ∃ xs : List (SzIn n lo hi w), xs.map (·.1) = L := sub_list hk
    have hfl : L.flatMap szC = xs.flatMap (fun x => szC x.1) := by rw [← hxs, List.flatMap_map]
    have hln : L.length = xs.length := by rw [← hxs, List.length_map]
    rw [hfl, hln] at h
    rw [hln]
    have hk4 : ∀ x : SzIn n lo hi w, (szC x.1).length = 4 := fun _ => rfl
    have hf : flatK (fun x : SzIn n lo hi w => szC x.1) 4 xs.toArray = (xs.flatMap fun x => szC x.1).toArray := by
      apply Array.toList_inj.1
      rw [flatK_list hk4]
    have hH : HoldsK (fun x : SzIn n lo hi w => szC x.1) 4 w g 0 xs.toArray := by
      unfold HoldsK
      rw [hf]
      exact row_holds h
    have eg : ∀ args w, (callFunc 130 args).run Proofs.Tryz.prog w = .ok (.enter 130 args) w := fun args w => run_callFunc callOrd args w
    have hlay : CmpLays Proofs.Tryz.prog 130 #[] (fun x : SzIn n lo hi w => szC x.1) 4 (fun x y => Fm.ord x.1.1 y.1.1) g 0 xs.toArray.size w := fun m os dk hdk x y => by
      have hs := (sort_world h (flatK (fun x : SzIn n lo hi w => szC x.1) 4 dk) (by
        have := congrArg List.length (flatK_list hk4 dk)
        rw [flat_len hk4, Array.length_toList, Array.length_toList, hdk] at this
        rw [this]; simp) m os).1
      have hs : Chg (fun j => j = g) w (sortWorldK (fun x : SzIn n lo hi w => szC x.1) 4 w g 0 m dk os) := hs
      have hkx := fun x : SzIn n lo hi w => KidsN.chg x.2.1 hs (fun k h1 h2 hk => by subst hk; omega)
      refine Calls.mono (ord_c (hkx x) (hkx y) x.2.2) fun e w' he => ?_
      cases e with
      | returned v =>
        obtain ⟨rfl, k⟩ := he
        exact ⟨rfl, kp_grow k⟩
      | _ => exact he.elim
    have hc := AnyQ.slices_SortFunc Proofs.Tryz.sortSized 4 Proofs.Tryz.isAgg186 Proofs.Tryz.sizeOf186 (fun x : SzIn n lo hi w => szC x.1) hk4 (fun x u hu => by
        obtain ⟨a, c, hv, -⟩ := x.2.1.slice
        simp only [szC, hv, List.mem_cons, List.not_mem_nil, or_false] at hu
        rcases hu with rfl | rfl | rfl | rfl <;> rfl) (fun x y => Fm.ord x.1.1 y.1.1) (ord_swo n lo hi w) 130 #[] g 0 cap xs.toArray w eg hlay hH (lt_of_heap h2) (by simpa using (hln ▸ hl))
    refine Calls.mono hc fun e w' ⟨he, d', m, os, hP, hS, hw⟩ => ?_
    subst he
    have hds : d'.size = xs.length := by simpa using hP.1
    have hs := sort_world h (flatK (fun x : SzIn n lo hi w => szC x.1) 4 d') (by
        have := congrArg List.length (flatK_list hk4 d')
        rw [flat_len hk4, Array.length_toList, Array.length_toList, hds] at this
        rw [this]) m os
    have hw : w' = grow (putRow id (Sort.ahead w m) g 0 (flatK (fun x : SzIn n lo hi w => szC x.1) 4 d')) os := hw
    rw [← hw] at hs
    refine ⟨hs.1.mono fun j hj => by subst hj; rfl, d'.toList.map (·.1), ?_, ?_, ?_⟩
    · have hp := hP.2.2
      rw [show xs.toArray.size = xs.length by simp] at hp
      have e1 : d'.extract 0 xs.length = d' := by rw [← hds]; simp
      have e2 : xs.toArray.extract 0 xs.length = xs.toArray := by simp
      rw [e1, e2] at hp
      have := hp.map (·.1)
      rw [← hxs]
      simpa using this
    · rw [List.pairwise_map, List.pairwise_iff_getElem]
      intro i j hi hj hij
      have hi' : i < d'.size := by simpa using hi
      have hj' : j < d'.size := by simpa using hj
      have := hS i j (Nat.zero_le _) hij (by simpa [hds] using hj')
      rw [getElem!_pos d' i hi', getElem!_pos d' j hj', ordLt, decide_eq_false_iff_not] at this
      have n1 := Fm.ord_neg d'[i].1.1 d'[j].1.1
      simp only [Array.getElem_toList]
      omega
    · have h4 := hs.2
      rw [flatK_list hk4] at h4
      rw [List.flatMap_map]
      exact h4
end Go.Au

namespace Go.Au
open Go Go.RowKit

/-! ### neighbours that are the same tree, once -/
abbrev at1 (xs : List Sz) (j : Nat) : Option Fm := (xs[j]?).map (·.1)
def cpP (xs : List Sz) : Nat → List Sz
  | 0 => []
  | p + 1 => match xs[p]? with
    | none => cpP xs p
    | some x => if 0 < p ∧ at1 xs (p - 1) = some x.1 then cpP xs p else cpP xs p ++ [x]
def cpE (xs : List Sz) : List Sz := cpP xs xs.length
theorem cpP_len (xs : List Sz) : ∀ p, (cpP xs p).length ≤ p
  | 0 => Nat.le_refl _
  | p + 1 => by
    have := cpP_len xs p
    unfold cpP
    split
    · omega
    · split
      · omega
      · rw [List.length_append]; simp; exact this
theorem cpP_new {xs : List Sz} {p : Nat} {x : Sz} (hx : xs[p]? = some x) (hn : 0 < p → at1 xs (p - 1) ≠ some x.1) : cpP xs (p + 1) = cpP xs p ++ [x] := by
  rw [cpP, hx]
  simp only
  rw [if_neg fun h => hn h.1 h.2]
theorem cpP_old {xs : List Sz} {p : Nat} {x : Sz} (hx : xs[p]? = some x) (h0 : 0 < p) (hn : at1 xs (p - 1) = some x.1) : cpP xs (p + 1) = cpP xs p := by
  rw [cpP, hx]
  simp only
  rw [if_pos ⟨h0, hn⟩]
theorem cpP_take {xs : List Sz} : ∀ {k : Nat}, k ≤ xs.length → (∀ j, 0 < j → j < k → at1 xs j ≠ at1 xs (j - 1)) → cpP xs k = xs.take k
  | 0, _, _ => by simp [cpP]
  | k + 1, hk, h => by
    have hx : xs[k]? = some xs[k] := by simp
    rw [cpP_new hx fun h0 he => h k h0 (by omega) ((show at1 xs k = some xs[k].1 by unfold at1; rw [hx]; rfl).trans he.symm), cpP_take (by omega) fun j h1 h2 => h j h1 (by omega), List.take_succ_eq_append_getElem (by omega)]

theorem callCompactF : callable Proofs.Tryz.prog 132 = true := by kernel_rfl
set_option maxHeartbeats 1000000 in
theorem compactF_c {w : World} {base : Nat} {v : Value} {xs : List Sz} (h : w.ownsRow base 186 4 v xs.length (xs.flatMap szC)) (hl : xs.length < 4611686018427387904) (hsl : ∀ p ∈ xs, ∃ a n c, p.2 = .slice a n c) (fg : FuncId) (cap : List Value) (hfg : callable Proofs.Tryz.prog fg = true)
    (hf : ∀ W x y, Chg (fun j => some j = v.ownBlock) w W → x ∈ xs → y ∈ xs → Calls Proofs.Tryz.prog fg (szA x :: szA y :: cap).toArray W (Ret fun r w' => r = .bool (decide (x.1 = y.1)) ∧ Kp W w')) :
    Calls Proofs.Tryz.prog 132 [v, .func (.func fg) #[] cap.toArray].toArray w (Ret fun r w' => Chg (fun j => some j = v.ownBlock) w w' ∧ w'.ownsRow base 186 4 r (cpE xs).length ((cpE xs).flatMap szC) ∧ r.ownBlock = v.ownBlock) := by
  have hk4 : ∀ x : Sz, (szC x).length = 4 := fun _ => rfl
  obtain ⟨va, vc, rfl, -, -⟩ := row_slice h
  have hsame : Unit → (∀ j, 0 < j → j < xs.length → at1 xs j ≠ at1 xs (j - 1)) → cpE xs = xs := fun _ hn => by unfold cpE; rw [cpP_take (Nat.le_refl _) hn, List.take_length]
  refine call agree Proofs.Tryz.func132 rfl Proofs.Tryz.ntmps132 (by kernel_rfl) ?_
  refine sp (fun hlt => ?_) (fun hge => ?_)
  · have he := hsame () fun j h1 h2 => by omega
    exact ⟨Chg.refl _ _, by rw [he]; exact h, rfl⟩
  · have hge : 2 ≤ xs.length := by omega
    rcases id h.2 with ⟨h0, h1⟩ | ⟨g, cap, cur, h0, hbase, hg, hncap, hcm, hcs, htk⟩
    · omega
    injection h0 with h0 _ h0'
    subst h0 h0'
    obtain ⟨cs, hcsd⟩ : ∃ cs, cs = cur.toList := ⟨_, rfl⟩
    have hO : Own w g 186 cs := by rw [hcsd]; exact hg
    obtain ⟨rest, hrest⟩ : ∃ rest, rest = cs.drop (xs.length * 4) := ⟨_, rfl⟩
    have hsp : cs = xs.flatMap szC ++ rest := by rw [hrest, ← htk, hcsd, List.take_append_drop]
    have hcl : cs.length = vc * 4 := by rw [hcsd]; simpa using hcs
    rw [hsp] at hO
    have hmk : ∀ (W : World) (ys : List Sz) (rest' : List Value) (m : Nat), Own W g 186 (ys.flatMap szC ++ rest') → (ys.flatMap szC ++ rest').length = vc * 4 → m ≤ ys.length → m ≤ vc → W.ownsRow base 186 4 (.slice (some ⟨g, 0, none⟩) m vc) m ((ys.take m).flatMap szC) := fun W ys rest' m hW hlen hm hmc => by
      refine ⟨by rw [flat_len hk4, List.length_take]; omega, .inr ⟨g, vc, (ys.flatMap szC ++ rest').toArray, rfl, hbase, hW, hmc, hcm, by simpa using hlen, ?_⟩⟩
      show (ys.flatMap szC ++ rest').take (m * 4) = _
      rw [← List.take_append_drop m ys, List.flatMap_append, List.append_assoc, List.take_append_drop, List.take_left' (by rw [flat_len hk4, List.length_take]; omega)]
    refine loop agree (σ := Nat) (fun k => [(0, .slice (some ⟨g, 0, none⟩) xs.length vc), (1, .func (.func fg) #[] cap.toArray), (5, .int .i64 k)]) (fun k W => Kp w W ∧ 1 ≤ k ∧ k ≤ xs.length ∧ ∀ j, 0 < j → j < k → at1 xs j ≠ at1 xs (j - 1)) (fun k => xs.length - k) 1
      ⟨rfl, rfl, rfl, trivial⟩ ⟨Chg.refl _ _, Nat.le_refl _, by omega, fun j h1 h2 => by omega⟩ ?_
    rintro k e0 W ⟨kW, hk1, hkl, hno⟩
    refine sp (fun hlt => ?_) (fun hge2 => ?_)
    · have hlt : k < xs.length := by omega
      have hxk : xs[k]? = some xs[k] := by simp
      have hxp : xs[k - 1]? = some (xs[k - 1]'(by omega)) := by simp [show k - 1 < xs.length by omega]
      obtain ⟨X, hX⟩ : ∃ X, X = xs[k] := ⟨_, rfl⟩
      obtain ⟨Y, hY⟩ : ∃ Y, Y = xs[k - 1]'(by omega) := ⟨_, rfl⟩
      rw [← hX] at hxk
      rw [← hY] at hxp
      have hXm := List.mem_of_getElem? hxk
      have hYm := List.mem_of_getElem? hxp
      refine drawn0 agree mixed 11 (by kernel_rfl) (fun _ => False) ?_
      conv => whnf
      refine ne ⟨by omega, by omega⟩ ?_
      conv => whnf
      refine ldk (v := szA X) agree rfl rfl (fun V hV _ => by rw [Int.toNat_natCast]; exact flat_range hk4 hxk (Own.all ((kW.trans hV).own hO id))) (by rfl) fun _ => ?_
      conv => whnf
      refine arX (show _ = ((k - 1 : Nat) : Int) by rw [show ((k : Int) - 1) = ((k - 1 : Nat) : Int) by omega]; exact wrap64 (by omega) (by omega)) ?_
      conv => whnf
      refine ne ⟨by omega, by omega⟩ ?_
      conv => whnf
      refine ldk (v := szA Y) agree rfl rfl (fun V hV _ => by rw [Int.toNat_natCast]; exact flat_range hk4 hxp (Own.all ((kW.trans hV).own hO id))) (by rfl) fun _ => ?_
      conv => whnf
      have hcall := fun V (hV : Kp W V) => hf V X Y ((kW.trans hV).mono fun _ hf => hf.elim) hXm hYm
      by_cases hXY : X.1 = Y.1
      · rw [decide_eq_true hXY] at hcall
        refine callk rfl rfl rfl hfg (fun V hV _ => hcall V hV) fun _ => ?_
        conv => whnf
        intro W1 k1 _
        have kW1 := kW.trans k1
        have hO1 := kW1.own hO id
        refine ne ⟨by omega, by omega, by omega⟩ ?_
        -- the tail
        have hcv : vc = k ∨ ¬ vc = k := Classical.em _
        have hcP : cpP xs k = xs.take k := cpP_take (by omega) hno
        have hcP1 : cpP xs (k + 1) = xs.take k := by rw [cpP_old hxk (by omega) (by unfold at1; rw [hxp]; exact congrArg some hXY.symm)]; exact hcP
        have h2s : ∀ p, k + 1 ≤ p → (cpP xs p).length < p := fun p => by
          induction p with
          | zero => intro hp; omega
          | succ p ih =>
            intro hp
            rcases Nat.lt_or_ge k p with h3 | h3
            · have h4 := ih (by omega)
              rw [cpP]
              split
              · omega
              · split
                · omega
                · rw [List.length_append]; simp; omega
            · obtain rfl : p = k := by omega
              rw [hcP1, List.length_take]; omega
        have hnc : ¬ vc = k := by omega
        have hsl : (if vc = k then (some ⟨g, 0, none⟩ : Option Addr) else (some ⟨g, 0, none⟩ : Option Addr).map (·.add (k * 4))) = some ⟨g, k * 4, none⟩ := by
          rw [if_neg hnc]
          simp only [Option.map_some, Addr.add]
          rw [if_neg (by omega), Nat.zero_add]
        obtain ⟨sl, hsld⟩ : ∃ sl, sl = (if vc = k then (some ⟨g, 0, none⟩ : Option Addr) else (some ⟨g, 0, none⟩ : Option Addr).map (·.add (k * 4))) := ⟨_, rfl⟩
        rw [← hsld] at hsl
        subst hsl
        refine loop agree (σ := Nat × Nat × List Sz) (fun t => [(0, .slice (some ⟨g, 0, none⟩) xs.length vc), (1, .func (.func fg) #[] cap.toArray), (5, .int .i64 t.2.1), (6, .slice (some ⟨g, k * 4, none⟩) (xs.length - k) (vc - k)), (7, .int .i64 t.1)])
          (fun t W => Chg (fun j => j = g) w W ∧ 1 ≤ t.1 ∧ t.1 ≤ xs.length - k ∧ t.2.1 = (cpP xs (k + t.1)).length ∧ t.2.2.length = xs.length ∧ Own W g 186 (t.2.2.flatMap szC ++ rest) ∧ t.2.2.take t.2.1 = cpP xs (k + t.1) ∧ ∀ j, k + t.1 - 1 ≤ j → t.2.2[j]? = xs[j]?) (fun t => xs.length - t.1) (1, k, xs)
          ⟨rfl, rfl, rfl, ?_, rfl, trivial⟩ ⟨kW1.mono fun _ hf => hf.elim, Nat.le_refl _, by simp only; omega, by simp only; rw [hcP1, List.length_take]; omega, rfl, hO1, by simp only; rw [hcP1], fun j hj => rfl⟩ ?_
        · show Value.slice (if vc = k then (some ⟨g, 0, none⟩ : Option Addr) else (some ⟨g, 0, none⟩ : Option Addr).map (·.add (k * 4))) (xs.length - k) (vc - k) = _
          rw [← hsld]
        rintro ⟨i, q, ys⟩ e1 W2 ⟨c2, hi1, hil, hq, hyl, hOy, htq, hor⟩
        simp only at hi1 hil hq hyl hOy htq hor
        have hql := cpP_len xs (k + i)
        refine sp (fun hlt2 => ?_) (fun hge3 => ?_)
        · have hlt2 : i < xs.length - k := by simp only at hlt2; omega
          have hki : k + i < xs.length := by omega
          obtain ⟨A, hA⟩ : ∃ A, A = xs[k + i] := ⟨_, rfl⟩
          obtain ⟨B, hB⟩ : ∃ B, B = xs[k + i - 1]'(by omega) := ⟨_, rfl⟩
          have hxA : xs[k + i]? = some A := by rw [hA]; simp
          have hxB : xs[k + i - 1]? = some B := by rw [hB]; simp [show k + i - 1 < xs.length by omega]
          have hyA : ys[k + i]? = some A := (hor _ (by omega)).trans hxA
          have hyB : ys[k + i - 1]? = some B := (hor _ (by omega)).trans hxB
          have rA := flat_range hk4 hyA (Own.all hOy)
          have rB := flat_range hk4 hyB (Own.all hOy)
          have eA : 0 + (k + i) * 4 = k * 4 + i * 4 := by omega
          have eB : 0 + (k + i - 1) * 4 = k * 4 + (i - 1) * 4 := by omega
          rw [eA] at rA
          rw [eB] at rB
          have hAm := List.mem_of_getElem? hxA
          have hBm := List.mem_of_getElem? hxB
          refine drawn0 agree mixed 12 (by kernel_rfl) (fun _ => False) ?_
          conv => whnf
          refine ne ⟨by omega, by omega⟩ ?_
          conv => whnf
          refine ldk (v := szA A) agree rfl rfl (fun V hV _ => by rw [Int.toNat_natCast]; exact hV.range rA id) (by rfl) fun _ => ?_
          conv => whnf
          refine arX (show _ = ((i - 1 : Nat) : Int) by rw [show ((i : Int) - 1) = ((i - 1 : Nat) : Int) by omega]; exact wrap64 (by omega) (by omega)) ?_
          conv => whnf
          refine ne ⟨by omega, by omega⟩ ?_
          conv => whnf
          refine ldk (v := szA B) agree rfl rfl (fun V hV _ => by rw [Int.toNat_natCast]; exact hV.range rB id) (by rfl) fun _ => ?_
          conv => whnf
          have hcall := fun V (hV : Kp W2 V) => hf V A B ((c2.newT hV fun _ hf => hf.elim).mono fun j hj => by subst hj; rfl) hAm hBm
          by_cases hAB : A.1 = B.1
          · rw [decide_eq_true hAB] at hcall
            refine callk rfl rfl rfl hfg (fun V hV _ => hcall V hV) fun _ => ?_
            conv => whnf
            intro W3 k3 _
            have hc1 : cpP xs (k + (i + 1)) = cpP xs (k + i) := cpP_old (p := k + i) hxA (by omega) (by unfold at1; rw [hxB]; exact congrArg some hAB.symm)
            refine aw (by simp only; omega) (by simp only; omega) ?_
            refine again (i + 1, q, ys) ⟨rfl, rfl, rfl, rfl, rfl, trivial⟩ ⟨c2.newT k3 fun _ hf => hf.elim, by simp only; omega, by simp only; omega, by simp only; rw [hc1]; exact hq, hyl, k3.own hOy id, by simp only; rw [hc1]; exact htq, fun j hj => hor j (by simp only at hj; omega)⟩ (by simp only; omega)
          · rw [decide_eq_false hAB] at hcall
            refine callk rfl rfl rfl hfg (fun V hV _ => hcall V hV) fun _ => ?_
            conv => whnf
            intro W3 k3 _
            have hOy3 := k3.own hOy id
            have hc1 : cpP xs (k + (i + 1)) = cpP xs (k + i) ++ [A] := cpP_new (p := k + i) hxA fun _ he => hAB (by unfold at1 at he; rw [hxB] at he; injection he with he; exact he.symm)
            have hqx : q < xs.length := by omega
            refine ne ⟨by omega, by omega⟩ ?_
            refine ld agree (v := szA A) (by rw [Int.toNat_natCast]; exact k3.range rA id) (by rfl) ?_
            refine ne ⟨Int.natCast_nonneg _, Int.ofNat_lt.2 hqx⟩ ?_
            obtain ⟨za, zn, zc, hz⟩ := hsl A hAm
            refine st agree hOy3 rfl ?_ (by show (szC A).all _ = true; unfold szC; rw [hz]; rfl) ?_
            · show 0 + ((q : Nat) : Int).toNat * 4 + 4 ≤ _
              rw [List.length_append, flat_len hk4]; omega
            intro W4 z4 c4 m4
            have hly := lay_flat hk4 rest A ys q (by omega)
            have m4 : Own W4 g 186 (lay (ys.flatMap szC ++ rest) (0 + ((q : Nat) : Int).toNat * 4) (szC A)) := m4
            rw [show 0 + ((q : Nat) : Int).toNat * 4 = q * 4 by omega, hly] at m4
            refine aw (by simp only; omega) (by simp only; omega) ?_
            refine aw (by simp only; omega) (by simp only; omega) ?_
            refine again (i + 1, q + 1, ys.set q A) ⟨rfl, rfl, rfl, rfl, rfl, trivial⟩ ⟨(c2.newT k3 fun _ hf => hf.elim).trans c4, by simp only; omega, by simp only; omega, by simp only; rw [hc1, List.length_append, ← hq]; rfl, by simp only; rw [List.length_set]; exact hyl, m4, ?_, fun j hj => ?_⟩ (by simp only; omega)
            · show (ys.set q A).take (q + 1) = cpP xs (k + (i + 1))
              have ht9 : (ys.set q A).take (q + 1) = ys.take q ++ [A] := by
                rw [List.take_succ_eq_append_getElem (by rw [List.length_set]; omega), List.getElem_set_self, List.take_set_of_le (Nat.le_refl _)]
              rw [hc1, ← htq]
              exact ht9
            · have hj : k + (i + 1) - 1 ≤ j := hj
              have h9 := h2s (k + i) (by omega)
              show (ys.set q A)[j]? = xs[j]?
              rw [List.getElem?_set_ne (show q ≠ j by omega)]
              exact hor j (by omega)
        · have hie : i = xs.length - k := by simp only at hge3; omega
          subst hie
          have hkk : k + (xs.length - k) = xs.length := by omega
          rw [hkk] at hq htq hql
          have hqlt : q < xs.length := by
            rw [hq]
            exact h2s xs.length (by omega)
          refine ne ⟨Int.natCast_nonneg _, Int.ofNat_le.2 (Nat.le_of_lt hqlt), Int.ofNat_le.2 hncap⟩ ?_
          have hncq : ¬ vc = q := by omega
          have hslq : (if vc = q then (some ⟨g, 0, none⟩ : Option Addr) else (some ⟨g, 0, none⟩ : Option Addr).map (·.add (q * 4))) = some ⟨g, q * 4, none⟩ := by
            rw [if_neg hncq]
            simp only [Option.map_some, Addr.add]
            split
            · rename_i h0; rw [h0]
            · rw [Nat.zero_add]
          obtain ⟨sq, hsqd⟩ : ∃ sq, sq = (if vc = q then (some ⟨g, 0, none⟩ : Option Addr) else (some ⟨g, 0, none⟩ : Option Addr).map (·.add (q * 4))) := ⟨_, rfl⟩
          rw [← hsqd] at hslq
          subst hslq
          refine clrS (b := g) (o := q * 4) (n := xs.length - q) (c := vc - q) agree rfl ?_ rfl rfl rfl hOy (by omega) ?_ rfl ?_
          · show Value.slice (if vc = q then (some ⟨g, 0, none⟩ : Option Addr) else (some ⟨g, 0, none⟩ : Option Addr).map (·.add (q * 4))) (xs.length - q) (vc - q) = _
            rw [← hsqd]
          · show q * 4 + (xs.length - q) * 4 ≤ _
            rw [List.length_append, flat_len hk4, hyl]; omega
          intro W3 zs hzl z3 c3 hO3
          have hzl : zs.length = (xs.length - q) * 4 := hzl
          refine ne ⟨by decide, Int.natCast_nonneg _, Int.ofNat_le.2 (Nat.le_trans (Nat.le_of_lt hqlt) hncap)⟩ ?_
          have hlen : (ys.flatMap szC ++ rest).length = vc * 4 := by
            have : (xs.flatMap szC ++ rest).length = vc * 4 := by rw [← hsp]; exact hcl
            rw [List.length_append, flat_len hk4] at this ⊢
            omega
          have hsplit : lay (ys.flatMap szC ++ rest) (q * 4) zs = (ys.take q).flatMap szC ++ (zs ++ rest) := by
            have h1 : ys.flatMap szC ++ rest = (ys.take q).flatMap szC ++ ((ys.drop q).flatMap szC ++ rest) := by
              conv => lhs; rw [← List.take_append_drop q ys, List.flatMap_append, List.append_assoc]
            rw [h1]
            have h2 := lay_left rest zs ((ys.drop q).flatMap szC) ((ys.take q).flatMap szC) (by rw [flat_len hk4, List.length_drop, hyl]; exact hzl)
            rw [flat_len hk4, List.length_take, Nat.min_eq_left (by omega)] at h2
            exact h2
          rw [hsplit] at hO3
          have hcq : cpE xs = ys.take q := htq.symm
          have hcql : (cpE xs).length = q := hq.symm
          refine ⟨(c2.trans c3).mono fun j hj => by rw [hj]; rfl, ?_, rfl⟩
          rw [hcql, hcq]
          have h5 := hmk W3 (ys.take q) (zs ++ rest) q hO3 (by
            rw [← hlen, List.length_append, List.length_append, List.length_append, flat_len hk4, flat_len hk4, List.length_take]; omega) (by rw [List.length_take]; omega) (by omega)
          rw [List.take_take, Nat.min_self] at h5
          exact h5
      · rw [decide_eq_false hXY] at hcall
        refine callk rfl rfl rfl hfg (fun V hV _ => hcall V hV) fun _ => ?_
        conv => whnf
        intro W1 k1 _
        refine aw (by omega) (by omega) ?_
        refine again (k + 1) ⟨rfl, rfl, rfl, trivial⟩ ⟨kW.trans k1, by omega, by omega, fun j h1 h2 => ?_⟩ (by omega)
        rcases Nat.lt_or_ge j k with h3 | h3
        · exact hno j h1 h3
        · obtain rfl : j = k := by omega
          unfold at1
          rw [hxk, hxp]
          exact fun he => hXY (by injection he)
    · have he := hsame () fun j h1 h2 => hno j h1 (by omega)
      exact ⟨kW.mono fun _ hf => hf.elim, by rw [he]; exact ownsRow_chg h kW fun _ _ => id, rfl⟩
end Go.Au

namespace Go.Au
open Go Go.RowKit

/-! ### all parts of a tree, in a row -/
namespace Fm0
mutual
def post : Fm → List Fm | .mk o n k => posts k ++ [.mk o n k]
def posts : List Fm → List Fm | [] => [] | f :: r => post f ++ posts r
end
theorem posts_append : ∀ a b : List Fm, posts (a ++ b) = posts a ++ posts b
  | [], b => by simp [posts]
  | f :: a, b => by simp [posts, posts_append a b]
theorem post_kids (f : Fm) : post f = posts f.kids ++ [f] := by obtain ⟨o, n, k⟩ := f; rfl
theorem posts_take {k : List Fm} {i : Nat} {x : Fm} (h : k[i]? = some x) : posts (k.take (i + 1)) = posts (k.take i) ++ post x := by
  obtain ⟨hi, rfl⟩ := List.getElem?_eq_some_iff.1 h
  rw [List.take_succ_eq_append_getElem hi, posts_append]
  simp [posts]
theorem mem_posts {x : Fm} : ∀ {k : List Fm}, x ∈ posts k ↔ ∃ f ∈ k, x ∈ post f
  | [] => by simp [posts]
  | f :: r => by simp [posts, mem_posts (k := r)]
theorem mem_post : ∀ {f x : Fm}, x ∈ post f ↔ x ∈ f.all := by
  intro f
  refine Fm.ind (P := fun f => ∀ {x : Fm}, x ∈ post f ↔ x ∈ f.all) ?_ f
  intro o n k ih x
  rw [post_kids, Fm.mem_all, List.mem_append, mem_posts, List.mem_singleton, or_comm]
  refine or_congr Iff.rfl ⟨fun ⟨c, hc, hx⟩ => ⟨c, hc, (ih c hc).1 hx⟩, fun ⟨c, hc, hx⟩ => ⟨c, hc, (ih c hc).2 hx⟩⟩
theorem post_len (f : Fm) : (post f).length = f.size := by
  refine Fm.ind (P := fun f => (post f).length = f.size) ?_ f
  intro o n k ih
  rw [post_kids, List.length_append]
  simp only [Fm.size, Fm.kids, List.length_singleton]
  congr 1
  induction k with
  | nil => rfl
  | cons a r h => simp only [posts, Fm.sizes, List.length_append, ih a (by simp), h fun x hx => ih x (by simp [hx])]
theorem posts_len (k : List Fm) : (posts k).length = Fm.sizes k := by
  induction k with
  | nil => rfl
  | cons a r h => simp only [posts, Fm.sizes, List.length_append, post_len, h]
end Fm0
theorem callGather : callable Proofs.Tryz.prog 129 = true := by kernel_rfl
theorem gather_c : ∀ (n lo hi : Nat) (w : World) (v : Value) (f : Fm) (base : Nat) (vl : Value) (L : List Sz), w.ownsRow base 186 4 vl L.length (L.flatMap szC) → KidsN n lo hi w v f.kids → hi ≤ base → base ≤ w.heap.size → L.length + f.size < 1000000000 →
    Calls Proofs.Tryz.prog 129 [vl, fmA f v].toArray w (Ret fun r w' => ∃ vl' M, r = .tuple #[vl', .int .i64 f.size] ∧ M.map (·.1) = Fm0.post f ∧ (∀ p ∈ M, KidsN n lo hi w' p.2 p.1.kids) ∧ Chg (fun j => some j = vl.ownBlock) w w' ∧
      w'.ownsRow base 186 4 vl' (L ++ M).length ((L ++ M).flatMap szC) ∧ (∀ g, vl'.ownBlock = some g → vl.ownBlock = some g ∨ w.heap.size ≤ g)) := by
  intro n
  induction n using Nat.strongRecOn with
  | ind n ih =>
    intro lo hi w v f base vl L hrow h hhi hbase hsz
    have h0 := h
    obtain ⟨a, c, rfl, hc⟩ := h.slice
    have hkl := kids_le f.kids
    have hfs := size_kids f
    obtain ⟨va, vc, hvl, -, hvb⟩ := row_slice hrow
    refine call agree Proofs.Tryz.func129 rfl Proofs.Tryz.ntmps129 (by kernel_rfl) ?_
    refine nd fun p w1 e1 s1 k1 m1 => ?_
    have m1 : Own w1 p 26 (fmC f (.slice a f.kids.length c)) := m1
    refine ld agree (Own.at_ (xs := [.slice a f.kids.length c]) m1 rfl) (by rfl) ?_
    refine loop agree (σ := Nat × Value × List Sz) (fun s => [(0, s.2.1), (3, pt p 0), (6, .int .i64 (Fm.sizes (f.kids.take s.1) + 1 : Nat)), (11, .slice a f.kids.length c), (12, .int .i64 f.kids.length), (13, .int .i64 s.1)])
      (fun s W => Chg (fun j => some j = vl.ownBlock) w W ∧ s.1 ≤ f.kids.length ∧ s.2.2.map (·.1) = Fm0.posts (f.kids.take s.1) ∧ (∀ q ∈ s.2.2, KidsN n lo hi W q.2 q.1.kids) ∧ W.ownsRow base 186 4 s.2.1 (L ++ s.2.2).length ((L ++ s.2.2).flatMap szC) ∧ (∀ g, s.2.1.ownBlock = some g → vl.ownBlock = some g ∨ p + 1 ≤ g) ∧ Own W p 26 (fmC f (.slice a f.kids.length c))) (fun s => f.kids.length - s.1) (0, vl, [])
      ⟨rfl, rfl, rfl, rfl, rfl, rfl, trivial⟩ ⟨k1.mono fun _ hf => hf.elim, by omega, rfl, fun q hq => by (cases hq), by simpa using ownsRow_chg hrow k1 fun _ _ => id, fun g hg => .inl hg, m1⟩ ?_
    rintro ⟨i, vi, M⟩ e0 W ⟨hk, hi2, hM, hMk, hr, hg, mp⟩
    simp only at hk hi2 hM hMk hr hg mp
    have hpw := lt_of_heap mp
    have hMl : M.length = Fm.sizes (f.kids.take i) := by
      have := congrArg List.length hM
      rw [List.length_map, Fm0.posts_len] at this
      exact this
    have hstl := sizes_take_le f.kids i
    refine sp (fun h1 => ?_) (fun h1 => ?_)
    · have hi' : i < f.kids.length := by omega
      have hx := List.getElem?_eq_getElem hi'
      generalize f.kids[i] = x at hx
      obtain _ | n := n
      · exact (h.kid0 hx).elim
      obtain ⟨b, o, u, rfl, hlo, hbh, hrd, hku⟩ := h.kid hx
      obtain ⟨ua, uc, rfl, -⟩ := hku.slice
      have hst := sizes_take hx
      have hsl := sizes_take_le f.kids (i + 1)
      have hnS : ∀ j, lo ≤ j → j < hi → ¬ some j = vl.ownBlock := fun j h1 h2 hj => by have := hvb j hj.symm; omega
      refine ne ⟨by omega, h1⟩ ?_
      refine ld agree (hk.range hrd (hnS b hlo hbh)) (by rfl) ?_
      refine nd fun m5 w3 e3 e4 k3 hm5 => ?_
      refine st agree hm5 rfl (Nat.le_refl 3) rfl fun w4 e5 k4 hm6 => ?_
      have k34 : Kp W w4 := k3.newS k4 (fun j hj => by subst hj; omega)
      have hk4 : Chg (fun j => some j = vl.ownBlock) w w4 := hk.newT k34 fun _ hf => hf.elim
      refine ld agree (Own.at_ (xs := fmC x _) (show Own w4 m5 _ (fmC x _) from hm6) rfl) (by rfl) ?_
      refine cl callGather (ih n (by omega) lo hi w4 _ x base vi (L ++ M) (ownsRow_chg hr k34 fun _ _ => id) (hku.chg hk4 hnS) hhi (by have := hk4.size; omega) (by rw [List.length_append]; omega)) ?_
      rintro _ w5 ⟨vl', M', rfl, hM', hMk', hc5, hr5, hg5⟩
      refine aw (by simp only; omega) (by simp only; omega) ?_
      refine aw (by simp only; omega) (by simp only; omega) ?_
      have hvi : ∀ j, some j = vi.ownBlock → some j = vl.ownBlock ∨ w.heap.size ≤ j := fun j hj => (hg j hj.symm).imp Eq.symm fun h => by omega
      have hnvi : ∀ j, lo ≤ j → j < hi → ¬ some j = vi.ownBlock := fun j h1 h2 hj => (hvi j hj).elim (hnS j h1 h2) fun h => by omega
      refine again (i + 1, vl', M ++ M') ⟨rfl, rfl, congrArg (Value.int .i64) (by simp only; rw [hst]; omega), rfl, rfl, rfl, trivial⟩ ⟨hk4.newT hc5 hvi, by simp only; omega, ?_, ?_, ?_, ?_, ?_⟩ (by simp only; omega)
      · show (M ++ M').map (·.1) = _
        rw [List.map_append, hM, hM', Fm0.posts_take hx]
      · intro q hq
        rcases List.mem_append.1 hq with hq | hq
        · exact ((hMk q hq).kp k34).chg hc5 hnvi
        · exact (hMk' q hq).le (by omega)
      · simp only
        rw [← List.append_assoc]
        exact hr5
      · intro g hg'
        rcases hg5 g hg' with h5 | h5
        · exact hg g h5
        · have := k34.size
          exact .inr (by omega)
      · refine hc5.own (k34.own mp id) fun hj => ?_
        rcases hg p hj.symm with h5 | h5
        · have := hvb p h5; omega
        · omega
    · have hil : i = f.kids.length := by omega
      subst hil
      rw [List.take_length] at *
      obtain ⟨wa, wc, rfl, -, hwb⟩ := row_slice hr
      refine ld agree (Own.at_ (xs := fmC f (.slice a f.kids.length c)) mp rfl) (by rfl) ?_
      refine ne (by decide) ?_
      refine nd fun m5 w3 e3 e4 k3 hm5 => ?_
      have hm5 : Own w3 m5 186 [.int .u8 f.op, .string f.name, .slice a f.kids.length c, .int .i64 (Fm.sizes f.kids + 1 : Nat)] := hm5
      refine apP (m := 1) (news := [.int .u8 f.op, .string f.name, .slice a f.kids.length c, .int .i64 (Fm.sizes f.kids + 1 : Nat)]) agree rfl rfl rfl rfl rfl rfl rfl (by decide) (ownsRow_chg hr k3 fun _ _ => id) rfl (Own.at_ (o := 0) hm5 rfl) rfl (by simp only [maxLen]; rw [List.length_append]; omega) (by show (_ + 1) * 56 ≤ _; rw [List.length_append]; omega) (by have := hk.size; omega) fun v' w8 hrow8 hc8 hnew8 _ => ?_
      have hkk := hk.newT k3 fun _ hf => hf.elim
      refine ⟨v', M ++ [(f, .slice a f.kids.length c)], by rw [hfs]; rfl, ?_, ?_, hkk.newT hc8 fun j hj => ?_, ?_, ?_⟩
      · rw [List.map_append, hM, Fm0.post_kids]; rfl
      · intro q hq
        have hnS : ∀ j, lo ≤ j → j < hi → ¬ some j = (Value.slice wa (L ++ M).length wc).ownBlock := fun j h1 h2 hj => by
          have := hwb j hj.symm
          omega
        rcases List.mem_append.1 hq with hq | hq
        · exact ((hMk q hq).kp k3).chg hc8 hnS
        · simp only [List.mem_singleton] at hq
          subst hq
          have hnS0 : ∀ j, lo ≤ j → j < hi → ¬ some j = vl.ownBlock := fun j h1 h2 hj => by have := hvb j hj.symm; omega
          exact (h0.chg hkk hnS0).chg hc8 hnS
      · rcases hg j hj.symm with h5 | h5
        · exact .inl h5.symm
        · exact .inr (by omega)
      · rw [← List.append_assoc, List.length_append, List.flatMap_append]
        have hrow8 : w8.ownsRow base 186 4 v' ((L ++ M).length + 1) ((L ++ M).flatMap szC ++ [.int .u8 f.op, .string f.name, .slice a f.kids.length c, .int .i64 (Fm.sizes f.kids + 1 : Nat)]) := hrow8
        simpa [szC, hfs] using hrow8
      · intro g hg'
        rcases hnew8 g hg' with h5 | h5
        · exact (hg g h5).imp id fun h => by omega
        · have := hkk.size
          exact .inr (by omega)
end Go.Au
