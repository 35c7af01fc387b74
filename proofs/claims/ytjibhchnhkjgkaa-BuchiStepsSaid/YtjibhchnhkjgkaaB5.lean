/- Own text of this workplace: a part of the proofs of this place's statements. -/
import Derived.Test.YtjibhchnhkjgkaaB4
set_option linter.unusedVariables false
set_option linter.unusedSimpArgs false
set_option linter.unusedSectionVars false
namespace Go.Au
open Go Go.RowKit Go.MapKept
open Go.Maps (Keyed)

structure BuchiV (lo hi : Nat) (w : World) (p i e f : Value) (g : Buchi) : Prop where
  props : Strs lo hi w p g.props
  init : Ints lo hi w i g.init
  edges : Edges lo hi w e g.edges
  final : Ints lo hi w f g.final
  lp : g.props.length < 4611686018427387904
  li : g.init.length < 4611686018427387904
  le : g.edges.length < 4611686018427387904
  lf : g.final.length < 4611686018427387904
def Buchi.general (b : Buchi) : General := { props := b.props, states := b.states, init := b.init, edges := b.edges, sets := [b.final] }

theorem general_c (w : World) (a1 a2 a3 a4 : Option Addr) (l1 c1 l2 c2 l3 c3 l4 c4 : Nat) (n : Int) :
    Calls Proofs.Try.prog 53 [.agg #[.slice a1 l1 c1, .int .i64 n, .slice a2 l2 c2, .slice a3 l3 c3, .slice a4 l4 c4]].toArray w
      (Ret fun r w' => Kp w w' ∧ ∃ q, w.heap.size ≤ q ∧ q < w'.heap.size ∧ w'.heap[q]? = some (.cells [.slice a4 l4 c4].toArray 24 (0, 0)) ∧ r = .agg #[.slice a1 l1 c1, .int .i64 n, .slice a2 l2 c2, .slice a3 l3 c3, .slice (some ⟨q, 0, none⟩) 1 1]) := by
  refine call agree Proofs.Try.func53 rfl Proofs.Try.ntmps53 (by kernel_rfl) ?_
  refine nd fun p w1 e1 s1 k1 m1 => ?_
  have m1 : Own w1 p 31 [.slice a1 l1 c1, .int .i64 n, .slice a2 l2 c2, .slice a3 l3 c3, .slice a4 l4 c4] := m1
  refine nd fun q w2 e2 s2 k2 m2 => ?_
  have m2 : Own w2 q 28 [.slice none 0 0, .int .i64 0, .slice none 0 0, .slice none 0 0, .slice none 0 0] := m2
  have m1 := k2.own m1 id
  refine ld agree (Own.at_ (xs := [.slice a1 l1 c1]) m1 rfl) (by rfl) ?_
  refine ld agree (Own.at_ (xs := [.int .i64 n]) m1 rfl) (by rfl) ?_
  refine ld agree (Own.at_ (xs := [.slice a2 l2 c2]) m1 rfl) (by rfl) ?_
  refine ld agree (Own.at_ (xs := [.slice a3 l3 c3]) m1 rfl) (by rfl) ?_
  refine ld agree (Own.at_ (xs := [.slice a4 l4 c4]) m1 rfl) (by rfl) ?_
  refine ne (by decide) ?_
  refine nd fun r w3 e3 s3 k3 m3 => ?_
  have m3 : Own w3 r 24 [.slice a4 l4 c4] := m3
  refine st agree (k3.own m2 id) rfl (Nat.le_refl 5) rfl ?_
  intro w4 s4 k4 m4
  refine ld agree (Own.at_ (xs := [.slice a1 l1 c1, .int .i64 n, .slice a2 l2 c2, .slice a3 l3 c3, .slice (some ⟨r, 0, none⟩) 1 1]) (o := 0) m4 rfl) (by rfl) ?_
  refine ⟨?_, r, ?_, ?_, ?_, rfl⟩
  · exact k1.trans ((k2.trans k3).new e2 k4)
  · have := k1.size; have := k2.size; omega
  · omega
  · exact k4.heap m3 (by omega)
theorem callGeneral : callable Proofs.Try.prog 53 = true := by kernel_rfl

theorem GenV.chg {lo hi lo' hi' : Nat} {w w' : World} {p i e s : Value} {g : General} (h : GenV lo hi w p i e s g) (k : Kp w w') (h1 : lo' ≤ lo) (h2 : hi ≤ hi') : GenV lo' hi' w' p i e s g :=
  ⟨(h.props.chg k (fun _ _ _ h => h) (fun _ _ h => h)).mono (fun _ _ h => h) h1 h2, (h.init.chg k (fun _ _ _ h => h) (fun _ _ h => h)).mono (fun _ _ h => h) h1 h2, (h.edges.chg k (fun _ _ _ h => h) (fun _ _ h => h)).mono (fun _ _ h => h) h1 h2,
    (h.sets.chg k (fun _ _ _ h => h) (fun _ _ ⟨u, hu, hr, hl⟩ => ⟨u, hu, hr.chg k (fun _ _ _ h => h) (fun _ _ h => h), hl⟩)).mono (fun _ _ ⟨u, hu, hr, hl⟩ => ⟨u, hu, hr.mono (fun _ _ h => h) h1 h2, hl⟩) h1 h2, h.lp, h.li, h.le, h.ls⟩
theorem BuchiV.chg {lo hi lo' hi' : Nat} {w w' : World} {p i e s : Value} {g : Buchi} (h : BuchiV lo hi w p i e s g) (k : Kp w w') (h1 : lo' ≤ lo) (h2 : hi ≤ hi') : BuchiV lo' hi' w' p i e s g :=
  ⟨(h.props.chg k (fun _ _ _ h => h) (fun _ _ h => h)).mono (fun _ _ h => h) h1 h2, (h.init.chg k (fun _ _ _ h => h) (fun _ _ h => h)).mono (fun _ _ h => h) h1 h2, (h.edges.chg k (fun _ _ _ h => h) (fun _ _ h => h)).mono (fun _ _ h => h) h1 h2,
    (h.final.chg k (fun _ _ _ h => h) (fun _ _ h => h)).mono (fun _ _ h => h) h1 h2, h.lp, h.li, h.le, h.lf⟩

/-- an automaton as a general one -/
theorem BuchiV.general {lo hi q : Nat} {w : World} {p i e f : Value} {g : Buchi} (h : BuchiV lo hi w p i e f g) (m : w.heap[q]? = some (.cells [f].toArray 24 (0, 0))) : GenV 0 (max hi (q + 1)) w p i e (.slice (some ⟨q, 0, none⟩) 1 1) g.general := by
  have h' := h.chg (Chg.refl _ w) (Nat.zero_le _) (Nat.le_max_left hi (q + 1))
  refine ⟨h'.props, h'.init, h'.edges, ?_, h.lp, h.li, h.le, by simp [Buchi.general]⟩
  refine row1R m (fun j x hx => ?_) rfl (Nat.le_refl _) (Nat.zero_le _) (by omega)
  cases j with
  | zero =>
    simp [Buchi.general] at hx
    subst hx
    exact ⟨f, rfl, f, rfl, h'.final, h.lf⟩
  | succ j => simp [Buchi.general] at hx

theorem checkB_c {w : World} {lo hi : Nat} {pv iv ev fv : Value} {g : Buchi} (hv : BuchiV lo hi w pv iv ev fv g) :
    Calls Proofs.Try.prog 14 [.agg #[pv, .int .i64 g.states, iv, ev, fv]].toArray w (Ret fun r w' => r = .int .i64 (errS (checkS g.general)) ∧ Kp w w') := by
  obtain ⟨a1, c1, rfl, -⟩ := id hv.props
  obtain ⟨a2, c2, rfl, -⟩ := id hv.init
  obtain ⟨a3, c3, rfl, -⟩ := id hv.edges
  obtain ⟨a4, c4, rfl, -⟩ := id hv.final
  refine call agree Proofs.Try.func14 rfl Proofs.Try.ntmps14 (by kernel_rfl) ?_
  refine nd fun p w1 e1 s1 k1 m1 => ?_
  have m1 : Own w1 p 31 [.slice a1 g.props.length c1, .int .i64 g.states, .slice a2 g.init.length c2, .slice a3 g.edges.length c3, .slice a4 g.final.length c4] := m1
  refine ld agree (Own.at_ (xs := [.slice a1 g.props.length c1, .int .i64 g.states, .slice a2 g.init.length c2, .slice a3 g.edges.length c3, .slice a4 g.final.length c4]) (o := 0) m1 rfl) (by rfl) ?_
  refine cl callGeneral (general_c w1 a1 a2 a3 a4 _ c1 _ c2 _ c3 _ c4 g.states) ?_
  rintro _ w2 ⟨k2, q, hq1, hq2, mq, rfl⟩
  have hg := (hv.chg (k1.trans k2) (Nat.le_refl _) (Nat.le_refl _)).general mq
  have hc := check_c hg
  refine cl callCheckG hc ?_
  rintro _ w3 ⟨rfl, k3⟩
  exact ⟨rfl, k1.trans (k2.trans k3)⟩
theorem callCheck : callable Proofs.Try.prog 14 = true := by kernel_rfl
end Go.Au
