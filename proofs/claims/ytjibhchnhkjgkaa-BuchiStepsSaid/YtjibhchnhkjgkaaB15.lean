/- Own text of this workplace: a part of the proofs of this place's statements. -/
import Derived.Test.YtjibhchnhkjgkaaB14
set_option linter.unusedVariables false
set_option linter.unusedSimpArgs false
set_option linter.unusedSectionVars false
namespace Go.Au
open Go Go.RowKit Go.MapKept
open Go.Maps (Keyed)

noncomputable def accS (g : General) (x : Word) : Bool × Int := if checkS g = true then (if wordOk x g.props.length = true then (acceptsS g x, 0) else (false, 101)) else (false, 100)

theorem check_len {g : General} (h : checkS g = true) : g.props.length ≤ 8 := by
  simp only [checkS, Bool.and_eq_true] at h
  have := h.1.1.1.1.1
  simp only [namesOk, Bool.and_eq_true] at this
  exact of_decide_eq_true this.2
theorem check_sorted {g : General} (h : checkS g = true) : ∀ l ∈ g.sets, l.Pairwise (· ≤ ·) := fun l hl => by
  simp only [checkS, Bool.and_eq_true] at h
  exact (rising_sorted (List.all_eq_true.1 h.2 l hl)).1

theorem acceptsG_c {w : World} {pv iv ev sv stv lov : Value} {g : General} {x : Word} (hv : GenV 0 w.heap.size w pv iv ev sv g) (hw : WordV 0 w.heap.size w stv lov x) (hE : g.edges.length < 1099511627776) (hP : x.places < 1048576) :
    Calls Proofs.Try.prog 23 [.agg #[pv, .int .i64 g.states, iv, ev, sv], .agg #[stv, lov]].toArray w (Ret fun v w' => v = .tuple #[.bool (accS g x).1, .int .i64 (accS g x).2] ∧ Kp w w') := by
  obtain ⟨pa, pc, hpv, -⟩ := id hv.props
  subst hpv
  refine call agree Proofs.Try.func23 rfl Proofs.Try.ntmps23 (by kernel_rfl) ?_
  refine nd fun p2 w1 e1 s1 k1 m1 => ?_
  have m2 : Own w1 p2 28 [.slice pa g.props.length pc, .int .i64 g.states, iv, ev, sv] := m1
  refine nd fun p3 w2 e2 s2 k2 m3 => ?_
  have m3 : Own w2 p3 44 [stv, lov] := m3
  have m2 := k2.own m2 id
  have k12 := k1.trans k2
  refine ld agree (v := .agg #[.slice pa g.props.length pc, .int .i64 g.states, iv, ev, sv]) (Own.at_ (xs := [.slice pa g.props.length pc, .int .i64 g.states, iv, ev, sv]) (o := 0) m2 rfl) (by rfl) ?_
  have hchk := check_c (hv.chg k12 (Nat.le_refl _) (Nat.le_refl _))
  refine cl callCheckG hchk ?_
  rintro _ w3 ⟨rfl, k3⟩
  cases hc : checkS g with
  | false =>
    refine spT (by decide) ?_
    exact ⟨by simp [accS, hc]; rfl, k12.trans k3⟩
  | true =>
    refine spF (by decide) ?_
    have m3' := k3.own m3 id
    have m2' := k3.own m2 id
    refine ld agree (v := .agg #[stv, lov]) (Own.at_ (xs := [stv, lov]) (o := 0) m3' rfl) (by rfl) ?_
    refine ld agree (Own.at_ (xs := [.slice pa g.props.length pc]) (o := 0) m2' rfl) (by rfl) ?_
    have hwc := wcheck_c (n := g.props.length) (hw.chg (k12.trans k3) (Nat.le_refl _) (Nat.le_refl _)) (check_len hc)
    refine cl callWCheck hwc ?_
    rintro _ w4 ⟨rfl, k4⟩
    have k14 := k12.trans (k3.trans k4)
    cases hk : wordOk x g.props.length with
    | false =>
      refine spT (by decide) ?_
      exact ⟨by simp [accS, hc, hk]; rfl, k14⟩
    | true =>
      refine spF (by decide) ?_
      refine ld agree (v := .agg #[.slice pa g.props.length pc, .int .i64 g.states, iv, ev, sv]) (Own.at_ (xs := [.slice pa g.props.length pc, .int .i64 g.states, iv, ev, sv]) (o := 0) (k4.own m2' id) rfl) (by rfl) ?_
      refine ld agree (v := .agg #[stv, lov]) (Own.at_ (xs := [stv, lov]) (o := 0) (k4.own m3' id) rfl) (by rfl) ?_
      have hb := beside_c (hv.chg k14 (Nat.le_refl _) k14.size) (hw.chg k14 (Nat.le_refl _) k14.size) (Good.of hc) (wordOk_loop hk) hE hP
      refine cl callBeside hb ?_
      rintro _ w5 ⟨k5, r, all, rfl, ha, hr⟩
      have hacc := accepts_c hr (Nat.le_refl _) ha (Good.of hc) (check_sorted hc) (wordOk_loop hk) hP hE
      refine cl callAccepts hacc ?_
      rintro _ w6 ⟨rfl, k6⟩
      exact ⟨by simp [accS, hc, hk]; rfl, k14.trans (k5.trans k6)⟩
theorem callAcceptsG : callable Proofs.Try.prog 23 = true := by kernel_rfl

theorem acceptsB_c {w : World} {pv iv ev fv stv lov : Value} {g : Buchi} {x : Word} (hv : BuchiV 0 w.heap.size w pv iv ev fv g) (hw : WordV 0 w.heap.size w stv lov x) (hE : g.edges.length < 1099511627776) (hP : x.places < 1048576) :
    Calls Proofs.Try.prog 26 [.agg #[pv, .int .i64 g.states, iv, ev, fv], .agg #[stv, lov]].toArray w (Ret fun v w' => v = .tuple #[.bool (accS g.general x).1, .int .i64 (accS g.general x).2] ∧ Kp w w') := by
  obtain ⟨a1, c1, hh1, -⟩ := id hv.props
  obtain ⟨a2, c2, hh2, -⟩ := id hv.init
  obtain ⟨a3, c3, hh3, -⟩ := id hv.edges
  obtain ⟨a4, c4, hh4, -⟩ := id hv.final
  subst hh1 hh2 hh3 hh4
  refine call agree Proofs.Try.func26 rfl Proofs.Try.ntmps26 (by kernel_rfl) ?_
  refine nd fun p2 w1 e1 s1 k1 m1 => ?_
  have m2 : Own w1 p2 31 [.slice a1 g.props.length c1, .int .i64 g.states, .slice a2 g.init.length c2, .slice a3 g.edges.length c3, .slice a4 g.final.length c4] := m1
  refine nd fun p3 w2 e2 s2 k2 m3 => ?_
  have m3 : Own w2 p3 44 [stv, lov] := m3
  have m2 := k2.own m2 id
  have k12 := k1.trans k2
  refine drawnK agree mixed 8 [0, 1, 2, 3, 4, 5, 6, 7] (by kernel_rfl) ?_
  conv => whnf
  refine ldk (v := .agg #[.slice a1 g.props.length c1, .int .i64 g.states, .slice a2 g.init.length c2, .slice a3 g.edges.length c3, .slice a4 g.final.length c4]) agree rfl rfl (fun W h _ => Own.at_ (xs := [.slice a1 g.props.length c1, .int .i64 g.states, .slice a2 g.init.length c2, .slice a3 g.edges.length c3, .slice a4 g.final.length c4]) (o := 0) (h.own m2 id) rfl) (by rfl) fun _ => ?_
  conv => whnf
  refine callf (fun q : Nat => .agg #[.slice a1 g.props.length c1, .int .i64 g.states, .slice a2 g.init.length c2, .slice a3 g.edges.length c3, .slice (some ⟨q, 0, none⟩) 1 1]) (fun q W => W.heap[q]? = some (.cells [.slice a4 g.final.length c4].toArray 24 (0, 0))) rfl rfl rfl (fun q W W' h k => k.heap h id) callGeneral (fun W h _ => (general_c W a1 a2 a3 a4 _ c1 _ c2 _ c3 _ c4 g.states).mono fun en W' hr => ?_) fun q D hD => ?_
  · cases en with
    | returned v =>
      obtain ⟨k, q, h1, h2, h3, h4⟩ := hr
      exact ⟨k, q, h4, h3⟩
    | _ => exact hr.elim
  conv => whnf
  refine ldk (v := .agg #[stv, lov]) agree rfl rfl (fun W h _ => Own.at_ (xs := [stv, lov]) (o := 0) (h.own m3 id) rfl) (by rfl) fun _ => ?_
  conv => whnf
  refine callk (v := .tuple #[.bool (accS g.general x).1, .int .i64 (accS g.general x).2]) rfl rfl rfl callAcceptsG (fun W h h2 => by
    have hq := hD W (h2 1 (by kernel_rfl))
    have hg := (hv.chg (k12.trans h) (Nat.le_refl _) (k12.trans h).size).general hq
    have hlt := lt_of_heap hq
    have hgg := hg.chg (Chg.refl _ W) (Nat.le_refl _) (show max W.heap.size (q + 1) ≤ W.heap.size by omega)
    exact acceptsG_c hgg (hw.chg (k12.trans h) (Nat.le_refl _) (k12.trans h).size) hE hP) fun _ => ?_
  conv => whnf
  intro W h _
  exact ⟨rfl, k12.trans h⟩
theorem callAcceptsB : callable Proofs.Try.prog 26 = true := by kernel_rfl
end Go.Au
