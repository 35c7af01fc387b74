/- Own text of this workplace: a part of the proofs of this place's statements. -/
import Derived.Test.YtjibhchnhkjgkaaB18
set_option linter.unusedVariables false
set_option linter.unusedSimpArgs false
set_option linter.unusedSectionVars false
namespace Go.Au
open Go Go.RowKit

theorem lentChg {α : Type} {el : TypeId} {f : α → List Value} {marks : List Value} {k lo : Nat} {W W' : World} {v : Value} {xs : List α} (h : Lent el f marks k lo W.heap.size W v xs) (hc : Kp W W') : Lent el f marks k lo W'.heap.size W' v xs := (h.chg hc fun _ _ _ h => h).mono (Nat.le_refl _) hc.size

/-! ### General -/
structure Gin (lo hi : Nat) (w : World) (p i e s : Value) (g : General) : Prop where
  props : Strs lo hi w p g.props
  init : Ints lo hi w i g.init
  edges : Edges lo hi w e g.edges
  sets : IntRowsB lo hi w s g.sets
  lp : g.props.length * 16 ≤ 140737488351232
  li : g.init.length * 8 ≤ 140737488351232
  le : g.edges.length * 24 ≤ 140737488351232
  ls : g.sets.length * 24 ≤ 140737488351232
structure Glent (lo hi : Nat) (w : World) (p i e s : Value) (g : General) : Prop where
  props : LentTexts lo hi w p g.props
  init : LentInts lo hi w i g.init
  edges : LentEdges lo hi w e g.edges
  wf : ∀ x ∈ g.edges, x.wf
  sets : LentRows lo hi w s g.sets
theorem Glent.chg {S : Nat → Prop} {lo hi : Nat} {w w' : World} {p i e s : Value} {g : General} (h : Glent lo hi w p i e s g) (hc : Chg S w w') (hs : ∀ k, lo ≤ k → k < hi → ¬ S k) : Glent lo hi w' p i e s g :=
  ⟨h.props.chg hc hs, h.init.chg hc hs, h.edges.chg hc hs, h.wf, h.sets.chg hc hs⟩
theorem Glent.mono {lo hi lo' hi' : Nat} {w : World} {p i e s : Value} {g : General} (h : Glent lo hi w p i e s g) (h1 : lo' ≤ lo) (h2 : hi ≤ hi') : Glent lo' hi' w p i e s g :=
  ⟨h.props.mono h1 h2, h.init.mono h1 h2, h.edges.mono h1 h2, h.wf, h.sets.mono h1 h2⟩
theorem Gin.wf {lo hi : Nat} {w : World} {p i e s : Value} {g : General} (h : Gin lo hi w p i e s g) : ∀ x ∈ g.edges, x.wf := fun x hx => by
  obtain ⟨a, c, -, -, hh⟩ := h.edges
  obtain ⟨j, hj, rfl⟩ := List.getElem_of_mem hx
  obtain ⟨b, o, -, -, -, cs, -, -, -, hw⟩ := hh j g.edges[j] (by simp)
  exact hw
theorem Gin.edges' {lo hi : Nat} {w : World} {p i e s : Value} {g : General} (h : Gin lo hi w p i e s g) : RowE (fun _ cs x => cs = Edge.cells x) 4 lo hi w e g.edges := h.edges.mono (fun _ _ h => h.1) (Nat.le_refl _) (Nat.le_refl _)
theorem Gin.chg {S : Nat → Prop} {lo hi : Nat} {w w' : World} {p i e s : Value} {g : General} (h : Gin lo hi w p i e s g) (hc : Chg S w w') (hs : ∀ k, lo ≤ k → k < hi → ¬ S k) : Gin lo hi w' p i e s g :=
  ⟨h.props.chg hc hs (fun _ _ h => h), h.init.chg hc hs (fun _ _ h => h), h.edges.chg hc hs (fun _ _ h => h), h.sets.chg hc hs, h.lp, h.li, h.le, h.ls⟩
theorem Gin.gen {lo hi : Nat} {w : World} {p i e s : Value} {g : General} (h : Gin lo hi w p i e s g) : GenV lo hi w p i e s g :=
  ⟨h.props, h.init, h.edges, h.sets.rows, by have := h.lp; omega, by have := h.li; omega, by have := h.le; omega, by have := h.ls; omega⟩
theorem Glent.row {lo hi lo2 hi2 : Nat} {w w2 : World} {p i e s p2 i2 e2 s2 : Value} {g : General} (h : Glent lo hi w p i e s g) (h' : Gin lo2 hi2 w2 p2 i2 e2 s2 g) : Gin lo hi w p i e s g :=
  ⟨h.props.row (fun _ => rfl), h.init.row (fun _ => rfl), (h.edges.row (size := 4) (fun _ => rfl)).and h.wf, h.sets.row, h'.lp, h'.li, h'.le, h'.ls⟩

set_option maxHeartbeats 2000000 in
theorem lentGeneral_c {w : World} {lo hi : Nat} {pv iv ev sv : Value} {g : General} (hv : Gin lo hi w pv iv ev sv g) :
    Calls Proofs.Try.prog 11 [.agg #[pv, .int .i64 g.states, iv, ev, sv]].toArray w (Ret fun r w' => Kp w w' ∧ ∃ p i e s, r = .agg #[p, .int .i64 g.states, i, e, s] ∧ Glent w.heap.size w'.heap.size w' p i e s g) := by
  refine call agree Proofs.Try.func11 rfl Proofs.Try.ntmps11 (by kernel_rfl) ?_
  refine nd fun p w1 e1 s1 k1 m1 => ?_
  have m1 : Own w1 p 28 [pv, .int .i64 g.states, iv, ev, sv] := m1
  refine nd fun q w2 e2 s2 k2 m2 => ?_
  have m1 := k2.own m1 id
  have k12 := k1.trans k2
  have hin : ∀ W, Kp w2 W → Gin lo hi W pv iv ev sv g := fun W h => hv.chg (k12.trans h) fun _ _ _ h => h
  refine drawnK agree mixed 15 [0, 1, 2, 5, 6, 7, 8, 9, 10, 11, 12, 13, 3, 4, 14] (by kernel_rfl) ?_
  conv => whnf
  refine ldk agree rfl rfl (fun W h _ => Own.at_ (xs := [pv]) (o := 0) (h.own m1 id) rfl) (by rfl) fun _ => ?_
  conv => whnf
  refine callf (fun b : Nat => .slice (some ⟨b, 0, none⟩) g.props.length (g.props.length + 2)) (fun b W => LentTexts w2.heap.size W.heap.size W (.slice (some ⟨b, 0, none⟩) g.props.length (g.props.length + 2)) g.props) rfl rfl rfl (fun b W W' h k => lentChg h k) callLentTexts (fun W h _ => (lentTexts_c (hin W h).props hv.lp).mono fun en W' hr => ?_) fun bp Dp hDp => ?_
  · cases en with
    | returned v =>
      obtain ⟨k, b, rfl, h1, h2⟩ := hr
      exact ⟨k, b, rfl, b, rfl, by have := h.size; omega, h2⟩
    | _ => exact hr.elim
  conv => whnf
  refine ldk agree rfl rfl (fun W h _ => Own.at_ (xs := [iv]) (o := 2) (h.own m1 id) rfl) (by rfl) fun _ => ?_
  conv => whnf
  refine callf (fun b : Nat => .slice (some ⟨b, 0, none⟩) g.init.length (g.init.length + 2)) (fun b W => LentInts w2.heap.size W.heap.size W (.slice (some ⟨b, 0, none⟩) g.init.length (g.init.length + 2)) g.init) rfl rfl rfl (fun b W W' h k => lentChg h k) callLentInts (fun W h _ => (lentInts_c (hin W h).init hv.li).mono fun en W' hr => ?_) fun bi Di hDi => ?_
  · cases en with
    | returned v =>
      obtain ⟨k, b, rfl, h1, h2⟩ := hr
      exact ⟨k, b, rfl, b, rfl, by have := h.size; omega, h2⟩
    | _ => exact hr.elim
  conv => whnf
  refine ldk agree rfl rfl (fun W h _ => Own.at_ (xs := [ev]) (o := 3) (h.own m1 id) rfl) (by rfl) fun _ => ?_
  conv => whnf
  refine callf (fun b : Nat => .slice (some ⟨b, 0, none⟩) g.edges.length (g.edges.length + 2)) (fun b W => LentEdges w2.heap.size W.heap.size W (.slice (some ⟨b, 0, none⟩) g.edges.length (g.edges.length + 2)) g.edges) rfl rfl rfl (fun b W W' h k => lentChg h k) callLentEdges (fun W h _ => (lentEdges_c (hin W h).edges' hv.le).mono fun en W' hr => ?_) fun be De hDe => ?_
  · cases en with
    | returned v =>
      obtain ⟨k, b, rfl, h1, h2⟩ := hr
      exact ⟨k, b, rfl, b, rfl, by have := h.size; omega, h2⟩
    | _ => exact hr.elim
  conv => whnf
  refine ldk agree rfl rfl (fun W h _ => Own.at_ (xs := [sv]) (o := 4) (h.own m1 id) rfl) (by rfl) fun _ => ?_
  conv => whnf
  refine callf (fun b : Nat => .slice (some ⟨b, 0, none⟩) g.sets.length (g.sets.length + 1)) (fun b W => LentRows w2.heap.size W.heap.size W (.slice (some ⟨b, 0, none⟩) g.sets.length (g.sets.length + 1)) g.sets) rfl rfl rfl (fun b W W' h k => (h.chg k fun _ _ _ h => h).mono (Nat.le_refl _) k.size) callLentRows (fun W h _ => (lentRows_c (hin W h).sets hv.ls).mono fun en W' hr => ?_) fun bs Ds hDs => ?_
  · cases en with
    | returned v =>
      obtain ⟨k, hr⟩ := hr
      have hr2 := hr.mono h.size (Nat.le_refl _)
      obtain ⟨b, vs, b77, rfl, -⟩ := hr
      exact ⟨k, b, rfl, hr2⟩
    | _ => exact hr.elim
  conv => whnf
  refine ldk agree rfl rfl (fun W h _ => Own.at_ (xs := [.int .i64 g.states]) (o := 1) (h.own m1 id) rfl) (by rfl) fun _ => ?_
  conv => whnf
  intro W h hd
  have gp := hDp W (hd 2)
  have gi := hDi W (hd 7)
  have ge := hDe W (hd 10)
  have gs := hDs W (hd 13)
  refine st agree (cs := cellsL ti28.zero) (h.own m2 id) rfl (Nat.le_refl 5) rfl ?_
  intro w3 s3 k3 m3
  refine ld (v := .agg #[.slice (some ⟨bp, 0, none⟩) g.props.length (g.props.length + 2), .int .i64 g.states, .slice (some ⟨bi, 0, none⟩) g.init.length (g.init.length + 2), .slice (some ⟨be, 0, none⟩) g.edges.length (g.edges.length + 2), .slice (some ⟨bs, 0, none⟩) g.sets.length (g.sets.length + 1)]) agree (Own.at_ (xs := [.slice (some ⟨bp, 0, none⟩) g.props.length (g.props.length + 2), .int .i64 g.states, .slice (some ⟨bi, 0, none⟩) g.init.length (g.init.length + 2), .slice (some ⟨be, 0, none⟩) g.edges.length (g.edges.length + 2), .slice (some ⟨bs, 0, none⟩) g.sets.length (g.sets.length + 1)]) (o := 0) m3 rfl) (by rfl) ?_
  refine ⟨(k12.trans h).newS k3 fun j hj => by omega, _, _, _, _, rfl, ?_⟩
  have hS : ∀ k, w2.heap.size ≤ k → k < W.heap.size → ¬ k = q := fun k h1 h2 => by omega
  rw [s3]
  exact (show Glent w2.heap.size W.heap.size w3 _ _ _ _ g from ⟨gp.chg k3 hS, gi.chg k3 hS, ge.chg k3 hS, hv.wf, gs.chg k3 hS⟩).mono k12.size (Nat.le_refl _)
theorem callLentGeneral : callable Proofs.Try.prog 11 = true := by kernel_rfl

theorem wholeGeneral_c {w : World} {lo hi lo2 hi2 : Nat} {p i e s p2 i2 e2 s2 : Value} {g : General} (h : Glent lo hi w p i e s g) (h' : Gin lo2 hi2 w p2 i2 e2 s2 g) :
    Calls Proofs.Try.prog 15 [.agg #[p, .int .i64 g.states, i, e, s], .agg #[p2, .int .i64 g.states, i2, e2, s2]].toArray w (Ret fun r w' => r = .bool true ∧ Kp w w') := by
  refine call agree Proofs.Try.func15 rfl Proofs.Try.ntmps15 (by kernel_rfl) ?_
  refine nd fun b1 w1 e1' s1' k1 m1 => ?_
  have m1 : Own w1 b1 28 [p, .int .i64 g.states, i, e, s] := m1
  refine nd fun b2 w2 e2' s2' k2 m2 => ?_
  have m2 : Own w2 b2 28 [p2, .int .i64 g.states, i2, e2, s2] := m2
  have m1 := k2.own m1 id
  have k12 := k1.trans k2
  have A : ∀ W, Kp w2 W → Glent lo hi W p i e s g := fun W k => h.chg (k12.trans k) fun _ _ _ h => h
  have B : ∀ W, Kp w2 W → Gin lo2 hi2 W p2 i2 e2 s2 g := fun W k => h'.chg (k12.trans k) fun _ _ _ h => h
  have c := h'.gen
  refine ld agree (Own.at_ (xs := [p]) (o := 0) m1 rfl) (by rfl) ?_
  refine ld agree (Own.at_ (xs := [p2]) (o := 0) m2 rfl) (by rfl) ?_
  refine cl callWholeTexts (wholeTexts_c (A _ (Chg.refl _ _)).props (B _ (Chg.refl _ _)).props c.lp) ?_
  rintro _ w3 ⟨rfl, k3⟩
  refine ld agree (Own.at_ (xs := [.int .i64 g.states]) (o := 1) (k3.own m1 id) rfl) (by rfl) ?_
  refine ld agree (Own.at_ (xs := [.int .i64 g.states]) (o := 1) (k3.own m2 id) rfl) (by rfl) ?_
  refine spT rfl ?_
  refine ld agree (Own.at_ (xs := [i]) (o := 2) (k3.own m1 id) rfl) (by rfl) ?_
  refine ld agree (Own.at_ (xs := [i2]) (o := 2) (k3.own m2 id) rfl) (by rfl) ?_
  refine cl callWholeInts (wholeInts_c (A _ k3).init (B _ k3).init c.li) ?_
  rintro _ w4 ⟨rfl, k4⟩
  replace k4 := k3.trans k4
  refine ld agree (Own.at_ (xs := [e]) (o := 3) (k4.own m1 id) rfl) (by rfl) ?_
  refine ld agree (Own.at_ (xs := [e2]) (o := 3) (k4.own m2 id) rfl) (by rfl) ?_
  refine cl callWholeEdges (wholeEdges_c (A _ k4).edges (B _ k4).edges' c.le) ?_
  rintro _ w5 ⟨rfl, k5⟩
  replace k5 := k4.trans k5
  refine ld agree (Own.at_ (xs := [s]) (o := 4) (k5.own m1 id) rfl) (by rfl) ?_
  refine ld agree (Own.at_ (xs := [s2]) (o := 4) (k5.own m2 id) rfl) (by rfl) ?_
  refine cl callWholeRows (wholeRows_c (A _ k5).sets (B _ k5).sets (by have := h'.ls; omega)) ?_
  rintro _ w6 ⟨rfl, k6⟩
  exact ⟨rfl, k12.trans (k5.trans k6)⟩
theorem callWholeGeneral : callable Proofs.Try.prog 15 = true := by kernel_rfl

/-! ### Buchi -/
structure Bin (lo hi : Nat) (w : World) (p i e s : Value) (g : Buchi) : Prop where
  props : Strs lo hi w p g.props
  init : Ints lo hi w i g.init
  edges : Edges lo hi w e g.edges
  final : Ints lo hi w s g.final
  lp : g.props.length * 16 ≤ 140737488351232
  li : g.init.length * 8 ≤ 140737488351232
  le : g.edges.length * 24 ≤ 140737488351232
  ls : g.final.length * 8 ≤ 140737488351232
structure Blent (lo hi : Nat) (w : World) (p i e s : Value) (g : Buchi) : Prop where
  props : LentTexts lo hi w p g.props
  init : LentInts lo hi w i g.init
  edges : LentEdges lo hi w e g.edges
  wf : ∀ x ∈ g.edges, x.wf
  final : LentInts lo hi w s g.final
theorem Blent.chg {S : Nat → Prop} {lo hi : Nat} {w w' : World} {p i e s : Value} {g : Buchi} (h : Blent lo hi w p i e s g) (hc : Chg S w w') (hs : ∀ k, lo ≤ k → k < hi → ¬ S k) : Blent lo hi w' p i e s g :=
  ⟨h.props.chg hc hs, h.init.chg hc hs, h.edges.chg hc hs, h.wf, h.final.chg hc hs⟩
theorem Blent.mono {lo hi lo' hi' : Nat} {w : World} {p i e s : Value} {g : Buchi} (h : Blent lo hi w p i e s g) (h1 : lo' ≤ lo) (h2 : hi ≤ hi') : Blent lo' hi' w p i e s g :=
  ⟨h.props.mono h1 h2, h.init.mono h1 h2, h.edges.mono h1 h2, h.wf, h.final.mono h1 h2⟩
theorem Bin.wf {lo hi : Nat} {w : World} {p i e s : Value} {g : Buchi} (h : Bin lo hi w p i e s g) : ∀ x ∈ g.edges, x.wf := fun x hx => by
  obtain ⟨a, c, -, -, hh⟩ := h.edges
  obtain ⟨j, hj, rfl⟩ := List.getElem_of_mem hx
  obtain ⟨b, o, -, -, -, cs, -, -, -, hw⟩ := hh j g.edges[j] (by simp)
  exact hw
theorem Bin.edges' {lo hi : Nat} {w : World} {p i e s : Value} {g : Buchi} (h : Bin lo hi w p i e s g) : RowE (fun _ cs x => cs = Edge.cells x) 4 lo hi w e g.edges := h.edges.mono (fun _ _ h => h.1) (Nat.le_refl _) (Nat.le_refl _)
theorem Bin.chg {S : Nat → Prop} {lo hi : Nat} {w w' : World} {p i e s : Value} {g : Buchi} (h : Bin lo hi w p i e s g) (hc : Chg S w w') (hs : ∀ k, lo ≤ k → k < hi → ¬ S k) : Bin lo hi w' p i e s g :=
  ⟨h.props.chg hc hs (fun _ _ h => h), h.init.chg hc hs (fun _ _ h => h), h.edges.chg hc hs (fun _ _ h => h), h.final.chg hc hs (fun _ _ h => h), h.lp, h.li, h.le, h.ls⟩
theorem Bin.gen {lo hi : Nat} {w : World} {p i e s : Value} {g : Buchi} (h : Bin lo hi w p i e s g) : BuchiV lo hi w p i e s g :=
  ⟨h.props, h.init, h.edges, h.final, by have := h.lp; omega, by have := h.li; omega, by have := h.le; omega, by have := h.ls; omega⟩
theorem Blent.row {lo hi lo2 hi2 : Nat} {w w2 : World} {p i e s p2 i2 e2 s2 : Value} {g : Buchi} (h : Blent lo hi w p i e s g) (h' : Bin lo2 hi2 w2 p2 i2 e2 s2 g) : Bin lo hi w p i e s g :=
  ⟨h.props.row (fun _ => rfl), h.init.row (fun _ => rfl), (h.edges.row (size := 4) (fun _ => rfl)).and h.wf, h.final.row (fun _ => rfl), h'.lp, h'.li, h'.le, h'.ls⟩

set_option maxHeartbeats 2000000 in
theorem lentBuchi_c {w : World} {lo hi : Nat} {pv iv ev sv : Value} {g : Buchi} (hv : Bin lo hi w pv iv ev sv g) :
    Calls Proofs.Try.prog 12 [.agg #[pv, .int .i64 g.states, iv, ev, sv]].toArray w (Ret fun r w' => Kp w w' ∧ ∃ p i e s, r = .agg #[p, .int .i64 g.states, i, e, s] ∧ Blent w.heap.size w'.heap.size w' p i e s g) := by
  refine call agree Proofs.Try.func12 rfl Proofs.Try.ntmps12 (by kernel_rfl) ?_
  refine nd fun p w1 e1 s1 k1 m1 => ?_
  have m1 : Own w1 p 31 [pv, .int .i64 g.states, iv, ev, sv] := m1
  refine nd fun q w2 e2 s2 k2 m2 => ?_
  have m1 := k2.own m1 id
  have k12 := k1.trans k2
  have hin : ∀ W, Kp w2 W → Bin lo hi W pv iv ev sv g := fun W h => hv.chg (k12.trans h) fun _ _ _ h => h
  refine drawnK agree mixed 15 [0, 1, 2, 5, 6, 7, 8, 9, 10, 11, 12, 13, 3, 4, 14] (by kernel_rfl) ?_
  conv => whnf
  refine ldk agree rfl rfl (fun W h _ => Own.at_ (xs := [pv]) (o := 0) (h.own m1 id) rfl) (by rfl) fun _ => ?_
  conv => whnf
  refine callf (fun b : Nat => .slice (some ⟨b, 0, none⟩) g.props.length (g.props.length + 2)) (fun b W => LentTexts w2.heap.size W.heap.size W (.slice (some ⟨b, 0, none⟩) g.props.length (g.props.length + 2)) g.props) rfl rfl rfl (fun b W W' h k => lentChg h k) callLentTexts (fun W h _ => (lentTexts_c (hin W h).props hv.lp).mono fun en W' hr => ?_) fun bp Dp hDp => ?_
  · cases en with
    | returned v =>
      obtain ⟨k, b, rfl, h1, h2⟩ := hr
      exact ⟨k, b, rfl, b, rfl, by have := h.size; omega, h2⟩
    | _ => exact hr.elim
  conv => whnf
  refine ldk agree rfl rfl (fun W h _ => Own.at_ (xs := [iv]) (o := 2) (h.own m1 id) rfl) (by rfl) fun _ => ?_
  conv => whnf
  refine callf (fun b : Nat => .slice (some ⟨b, 0, none⟩) g.init.length (g.init.length + 2)) (fun b W => LentInts w2.heap.size W.heap.size W (.slice (some ⟨b, 0, none⟩) g.init.length (g.init.length + 2)) g.init) rfl rfl rfl (fun b W W' h k => lentChg h k) callLentInts (fun W h _ => (lentInts_c (hin W h).init hv.li).mono fun en W' hr => ?_) fun bi Di hDi => ?_
  · cases en with
    | returned v =>
      obtain ⟨k, b, rfl, h1, h2⟩ := hr
      exact ⟨k, b, rfl, b, rfl, by have := h.size; omega, h2⟩
    | _ => exact hr.elim
  conv => whnf
  refine ldk agree rfl rfl (fun W h _ => Own.at_ (xs := [ev]) (o := 3) (h.own m1 id) rfl) (by rfl) fun _ => ?_
  conv => whnf
  refine callf (fun b : Nat => .slice (some ⟨b, 0, none⟩) g.edges.length (g.edges.length + 2)) (fun b W => LentEdges w2.heap.size W.heap.size W (.slice (some ⟨b, 0, none⟩) g.edges.length (g.edges.length + 2)) g.edges) rfl rfl rfl (fun b W W' h k => lentChg h k) callLentEdges (fun W h _ => (lentEdges_c (hin W h).edges' hv.le).mono fun en W' hr => ?_) fun be De hDe => ?_
  · cases en with
    | returned v =>
      obtain ⟨k, b, rfl, h1, h2⟩ := hr
      exact ⟨k, b, rfl, b, rfl, by have := h.size; omega, h2⟩
    | _ => exact hr.elim
  conv => whnf
  refine ldk agree rfl rfl (fun W h _ => Own.at_ (xs := [sv]) (o := 4) (h.own m1 id) rfl) (by rfl) fun _ => ?_
  conv => whnf
  refine callf (fun b : Nat => .slice (some ⟨b, 0, none⟩) g.final.length (g.final.length + 2)) (fun b W => LentInts w2.heap.size W.heap.size W (.slice (some ⟨b, 0, none⟩) g.final.length (g.final.length + 2)) g.final) rfl rfl rfl (fun b W W' h k => lentChg h k) callLentInts (fun W h _ => (lentInts_c (hin W h).final hv.ls).mono fun en W' hr => ?_) fun bs Ds hDs => ?_
  · cases en with
    | returned v =>
      obtain ⟨k, hr⟩ := hr
      have hr2 := hr.mono h.size (Nat.le_refl _)
      obtain ⟨b, rfl, -⟩ := hr
      exact ⟨k, b, rfl, hr2⟩
    | _ => exact hr.elim
  conv => whnf
  refine ldk agree rfl rfl (fun W h _ => Own.at_ (xs := [.int .i64 g.states]) (o := 1) (h.own m1 id) rfl) (by rfl) fun _ => ?_
  conv => whnf
  intro W h hd
  have gp := hDp W (hd 2)
  have gi := hDi W (hd 7)
  have ge := hDe W (hd 10)
  have gs := hDs W (hd 13)
  refine st agree (cs := cellsL ti31.zero) (h.own m2 id) rfl (Nat.le_refl 5) rfl ?_
  intro w3 s3 k3 m3
  refine ld (v := .agg #[.slice (some ⟨bp, 0, none⟩) g.props.length (g.props.length + 2), .int .i64 g.states, .slice (some ⟨bi, 0, none⟩) g.init.length (g.init.length + 2), .slice (some ⟨be, 0, none⟩) g.edges.length (g.edges.length + 2), .slice (some ⟨bs, 0, none⟩) g.final.length (g.final.length + 2)]) agree (Own.at_ (xs := [.slice (some ⟨bp, 0, none⟩) g.props.length (g.props.length + 2), .int .i64 g.states, .slice (some ⟨bi, 0, none⟩) g.init.length (g.init.length + 2), .slice (some ⟨be, 0, none⟩) g.edges.length (g.edges.length + 2), .slice (some ⟨bs, 0, none⟩) g.final.length (g.final.length + 2)]) (o := 0) m3 rfl) (by rfl) ?_
  refine ⟨(k12.trans h).newS k3 fun j hj => by omega, _, _, _, _, rfl, ?_⟩
  have hS : ∀ k, w2.heap.size ≤ k → k < W.heap.size → ¬ k = q := fun k h1 h2 => by omega
  rw [s3]
  exact (show Blent w2.heap.size W.heap.size w3 _ _ _ _ g from ⟨gp.chg k3 hS, gi.chg k3 hS, ge.chg k3 hS, hv.wf, gs.chg k3 hS⟩).mono k12.size (Nat.le_refl _)
theorem callLentBuchi : callable Proofs.Try.prog 12 = true := by kernel_rfl

theorem wholeBuchi_c {w : World} {lo hi lo2 hi2 : Nat} {p i e s p2 i2 e2 s2 : Value} {g : Buchi} (h : Blent lo hi w p i e s g) (h' : Bin lo2 hi2 w p2 i2 e2 s2 g) :
    Calls Proofs.Try.prog 16 [.agg #[p, .int .i64 g.states, i, e, s], .agg #[p2, .int .i64 g.states, i2, e2, s2]].toArray w (Ret fun r w' => r = .bool true ∧ Kp w w') := by
  refine call agree Proofs.Try.func16 rfl Proofs.Try.ntmps16 (by kernel_rfl) ?_
  refine nd fun b1 w1 e1' s1' k1 m1 => ?_
  have m1 : Own w1 b1 31 [p, .int .i64 g.states, i, e, s] := m1
  refine nd fun b2 w2 e2' s2' k2 m2 => ?_
  have m2 : Own w2 b2 31 [p2, .int .i64 g.states, i2, e2, s2] := m2
  have m1 := k2.own m1 id
  have k12 := k1.trans k2
  have A : ∀ W, Kp w2 W → Blent lo hi W p i e s g := fun W k => h.chg (k12.trans k) fun _ _ _ h => h
  have B : ∀ W, Kp w2 W → Bin lo2 hi2 W p2 i2 e2 s2 g := fun W k => h'.chg (k12.trans k) fun _ _ _ h => h
  have c := h'.gen
  refine ld agree (Own.at_ (xs := [p]) (o := 0) m1 rfl) (by rfl) ?_
  refine ld agree (Own.at_ (xs := [p2]) (o := 0) m2 rfl) (by rfl) ?_
  refine cl callWholeTexts (wholeTexts_c (A _ (Chg.refl _ _)).props (B _ (Chg.refl _ _)).props c.lp) ?_
  rintro _ w3 ⟨rfl, k3⟩
  refine ld agree (Own.at_ (xs := [.int .i64 g.states]) (o := 1) (k3.own m1 id) rfl) (by rfl) ?_
  refine ld agree (Own.at_ (xs := [.int .i64 g.states]) (o := 1) (k3.own m2 id) rfl) (by rfl) ?_
  refine spT rfl ?_
  refine ld agree (Own.at_ (xs := [i]) (o := 2) (k3.own m1 id) rfl) (by rfl) ?_
  refine ld agree (Own.at_ (xs := [i2]) (o := 2) (k3.own m2 id) rfl) (by rfl) ?_
  refine cl callWholeInts (wholeInts_c (A _ k3).init (B _ k3).init c.li) ?_
  rintro _ w4 ⟨rfl, k4⟩
  replace k4 := k3.trans k4
  refine ld agree (Own.at_ (xs := [e]) (o := 3) (k4.own m1 id) rfl) (by rfl) ?_
  refine ld agree (Own.at_ (xs := [e2]) (o := 3) (k4.own m2 id) rfl) (by rfl) ?_
  refine cl callWholeEdges (wholeEdges_c (A _ k4).edges (B _ k4).edges' c.le) ?_
  rintro _ w5 ⟨rfl, k5⟩
  replace k5 := k4.trans k5
  refine ld agree (Own.at_ (xs := [s]) (o := 4) (k5.own m1 id) rfl) (by rfl) ?_
  refine ld agree (Own.at_ (xs := [s2]) (o := 4) (k5.own m2 id) rfl) (by rfl) ?_
  refine cl callWholeInts (wholeInts_c (A _ k5).final (B _ k5).final (by have := h'.ls; omega)) ?_
  rintro _ w6 ⟨rfl, k6⟩
  exact ⟨rfl, k12.trans (k5.trans k6)⟩
theorem callWholeBuchi : callable Proofs.Try.prog 16 = true := by kernel_rfl

end Go.Au
