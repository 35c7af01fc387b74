/- Own text of this workplace: a part of the proofs of this place's statements. -/
import Derived.Test.YtjibhchnhkjgkaaB22
set_option linter.unusedVariables false
set_option linter.unusedSimpArgs false
set_option linter.unusedSectionVars false
namespace Go.Au
open Go Go.RowKit

theorem callOfTexts : callable Proofs.Try.prog 45 = true := by kernel_rfl
theorem ofTexts_c {w : World} {lo hi : Nat} {v : Value} {l : List ByteArray} (h : Strs lo hi w v l) (hl : l.length < 4611686018427387904) :
    Calls Proofs.Try.prog 45 [v].toArray w (Ret fun r w' => Kp w w' ∧ ∃ z : Int, r = .int .i64 z ∧ True) := by
  obtain ⟨a, cap, rfl, hcap, hx⟩ := h
  refine call agree Proofs.Try.func45 rfl Proofs.Try.ntmps45 (by kernel_rfl) ?_
  refine loop agree (σ := Nat × Int) (fun p => [(0, .slice a l.length cap), (3, .int .i64 p.2), (4, .int .i64 p.1)])
    (fun p w' => Kp w w' ∧ p.1 ≤ l.length) (fun p => l.length - p.1) (0, 0) ⟨rfl, rfl, rfl, trivial⟩ ⟨Chg.refl _ _, by simp⟩ ?_
  rintro ⟨i, n⟩ e0 w1 ⟨k1, hi⟩
  refine sp (fun h1 => ?_) (fun h1 => ?_)
  · refine sp (fun h2 => ?_) (fun h2 => ?_)
    · have hi' : i < l.length := by simp only at h1; omega
      obtain ⟨b, o, rfl, -, -, cs, hcs, hrd, rfl⟩ := hx i l[i] (by simp)
      refine ne ⟨by simp only; omega, h1⟩ ?_
      refine ld agree (k1.range hrd id) rfl ?_
      refine ar ?_
      refine ar ?_
      refine aw (by simp only at *; omega) (by simp only at *; omega) ?_
      exact again (i + 1, _) ⟨rfl, rfl, rfl, trivial⟩ ⟨k1, by simp only; omega⟩ (by simp only; omega)
    · exact ⟨k1, _, rfl, trivial⟩
  · exact ⟨k1, _, rfl, trivial⟩

theorem callSmall : callable Proofs.Try.prog 10 = true := by kernel_rfl
theorem small_c {w : World} {lo hi : Nat} {pv iv ev sv : Value} {g : General} (hv : Gin lo hi w pv iv ev sv g) :
    Calls Proofs.Try.prog 10 [.agg #[pv, .int .i64 g.states, iv, ev, sv]].toArray w (Ret fun r w' => Kp w w' ∧ ∃ b : Bool, r = .bool b) := by
  have ls := hv.ls
  have lp := hv.lp
  have hp := hv.props
  obtain ⟨ia, ic, rfl, -⟩ := id hv.init
  obtain ⟨ea, ec, rfl, -⟩ := id hv.edges
  obtain ⟨sa, sc, rfl, -, hsets⟩ := id hv.sets
  refine call agree Proofs.Try.func10 rfl Proofs.Try.ntmps10 (by kernel_rfl) ?_
  refine nd fun p w1 e1 s1 k1 m1 => ?_
  have m1 : Own w1 p 28 [pv, .int .i64 g.states, .slice ia g.init.length ic, .slice ea g.edges.length ec, .slice sa g.sets.length sc] := m1
  refine drawn0 agree mixed 12 (by kernel_rfl) (fun _ => False) ?_
  conv => whnf
  refine ldk agree rfl rfl (fun W h _ => Own.at_ (xs := [pv]) (o := 0) (h.own m1 id) rfl) (by rfl) fun _ => ?_
  conv => whnf
  refine callf (fun z : Int => .int .i64 z) (fun _ _ => True) rfl rfl rfl (fun _ _ _ _ _ => trivial) callOfTexts (fun W h _ => ofTexts_c (hp.chg (k1.trans h) (fun _ _ _ h => h) (fun _ _ h => h)) (by omega)) fun z _ _ => ?_
  conv => whnf
  refine ldk agree rfl rfl (fun W h _ => Own.at_ (xs := [.slice ia g.init.length ic]) (o := 2) (h.own m1 id) rfl) (by rfl) fun _ => ?_
  conv => whnf
  refine ar ?_
  conv => whnf
  refine ldk agree rfl rfl (fun W h _ => Own.at_ (xs := [.slice ea g.edges.length ec]) (o := 3) (h.own m1 id) rfl) (by rfl) fun _ => ?_
  conv => whnf
  refine ar ?_
  conv => whnf
  intro W h _
  refine loop agree (σ := Nat × Int) (fun q => [(1, pt p 0), (3, .int .i64 q.2), (4, .int .i64 q.1)])
    (fun q w' => Kp w1 w' ∧ q.1 ≤ g.sets.length) (fun q => g.sets.length - q.1) (0, _) ⟨rfl, rfl, rfl, trivial⟩ ⟨h, by simp⟩ ?_
  rintro ⟨i, n⟩ e0 w2 ⟨k2, hi⟩
  have B : Own w2 p 28 [pv, .int .i64 g.states, .slice ia g.init.length ic, .slice ea g.edges.length ec, .slice sa g.sets.length sc] := k2.own m1 id
  refine ld agree (Own.at_ (xs := [.slice sa g.sets.length sc]) (o := 4) B rfl) (by rfl) ?_
  refine sp (fun h1 => ?_) (fun h1 => ?_)
  · refine sp (fun h2 => ?_) (fun h2 => ?_)
    · have hi' : i < g.sets.length := by simp only at h1; omega
      obtain ⟨b, o, rfl, -, -, cs, hcs, hrd, u, rfl, ⟨ua, uc, rfl, -⟩, hul⟩ := hsets i g.sets[i] (by simp)
      refine ar ?_
      refine ld agree (Own.at_ (xs := [.slice (some ⟨b, o, none⟩) g.sets.length sc]) (o := 4) B rfl) (by rfl) ?_
      refine ne ⟨by simp only; omega, h1⟩ ?_
      refine ld agree ((k1.trans k2).range hrd id) (by rfl) ?_
      refine ar ?_
      refine aw (by simp only at *; omega) (by simp only at *; omega) ?_
      exact again (i + 1, _) ⟨rfl, rfl, rfl, trivial⟩ ⟨k2, by simp only; omega⟩ (by simp only; omega)
    · exact spB ⟨k1.trans k2, _, rfl⟩
  · exact spB ⟨k1.trans k2, _, rfl⟩

set_option maxHeartbeats 2000000 in
theorem checks_c {w : World} {pv iv ev sv fv : Value} {g : General} {final : List Int} (hv : Gin 0 w.heap.size w pv iv ev sv g) (hf : Ints 0 w.heap.size w fv final) (hfl : final.length * 8 ≤ 140737488351232) :
    Calls Proofs.Try.prog 4 [.agg #[pv, .int .i64 g.states, iv, ev, sv], fv].toArray w (Ret fun r w' => r = .bool true ∧ Kp w w') := by
  have hf0 := hf
  obtain ⟨fa, fc, rfl, -⟩ := hf
  obtain ⟨pa, pc, rfl, -⟩ := id hv.props
  obtain ⟨ia, ic, rfl, -⟩ := id hv.init
  obtain ⟨ea, ec, rfl, -⟩ := id hv.edges
  have hbin : ∀ {W}, Kp w W → Bin 0 w.heap.size W (.slice pa g.props.length pc) (.slice ia g.init.length ic) (.slice ea g.edges.length ec) (.slice fa final.length fc) ⟨g.props, g.states, g.init, g.edges, final⟩ := fun k =>
    ⟨hv.props.chg k (fun _ _ _ h => h) (fun _ _ h => h), hv.init.chg k (fun _ _ _ h => h) (fun _ _ h => h), hv.edges.chg k (fun _ _ _ h => h) (fun _ _ h => h), hf0.chg k (fun _ _ _ h => h) (fun _ _ h => h), hv.lp, hv.li, hv.le, hfl⟩
  have hgin : ∀ {W}, Kp w W → Gin 0 w.heap.size W (.slice pa g.props.length pc) (.slice ia g.init.length ic) (.slice ea g.edges.length ec) sv g := fun k => hv.chg k fun _ _ _ h => h
  refine call agree Proofs.Try.func4 rfl Proofs.Try.ntmps4 (by kernel_rfl) ?_
  refine nd fun b2 w1 e1 s1 k1 m2 => ?_
  have m2 : Own w1 b2 28 [.slice pa g.props.length pc, .int .i64 g.states, .slice ia g.init.length ic, .slice ea g.edges.length ec, sv] := m2
  refine ld (v := .agg #[.slice pa g.props.length pc, .int .i64 g.states, .slice ia g.init.length ic, .slice ea g.edges.length ec, sv]) agree (Own.at_ (xs := [.slice pa g.props.length pc, .int .i64 g.states, .slice ia g.init.length ic, .slice ea g.edges.length ec, sv]) (o := 0) m2 rfl) (by rfl) ?_
  refine cl callSmall (small_c (hgin k1)) ?_
  rintro _ w2 ⟨k2, sm, rfl⟩
  have k12 := k1.trans k2
  cases sm with
  | false => exact ⟨rfl, k12⟩
  | true =>
  refine sp (fun h1 => ?_) (fun h1 => ?_)
  · exact ⟨rfl, k12⟩
  refine cl callKnown (known_c w2) ?_
  rintro _ w3 ⟨rfl, k3⟩
  have k13 := k12.trans k3
  have m2 := (k2.trans k3).own m2 id
  refine ld agree (Own.at_ (xs := [.slice pa g.props.length pc]) (o := 0) m2 rfl) (by rfl) ?_
  refine ld agree (Own.at_ (xs := [.int .i64 g.states]) (o := 1) m2 rfl) (by rfl) ?_
  refine ld agree (Own.at_ (xs := [.slice ia g.init.length ic]) (o := 2) m2 rfl) (by rfl) ?_
  refine ld agree (Own.at_ (xs := [.slice ea g.edges.length ec]) (o := 3) m2 rfl) (by rfl) ?_
  refine nd fun b6 w4 e4 s4 k4 m6 => ?_
  refine st agree (cs := cellsL ti31.zero) m6 rfl (Nat.le_refl 5) rfl ?_
  intro w5 s5 k5 m6
  have m6 : Own w5 b6 31 [.slice pa g.props.length pc, .int .i64 g.states, .slice ia g.init.length ic, .slice ea g.edges.length ec, .slice fa final.length fc] := m6
  have k35 : Kp w3 w5 := k4.new e4 k5
  have k15 := k13.trans k35
  have m2 := k35.own m2 id
  refine ld (v := .agg #[.slice pa g.props.length pc, .int .i64 g.states, .slice ia g.init.length ic, .slice ea g.edges.length ec, sv]) agree (Own.at_ (xs := [.slice pa g.props.length pc, .int .i64 g.states, .slice ia g.init.length ic, .slice ea g.edges.length ec, sv]) (o := 0) m2 rfl) (by rfl) ?_
  refine cl callLentGeneral (lentGeneral_c (hgin k15)) ?_
  rintro _ w6 ⟨k6, lp, li, le, ls, rfl, hG⟩
  obtain ⟨xp, rfl, -⟩ := id hG.props
  obtain ⟨xi, rfl, -⟩ := id hG.init
  obtain ⟨xe, rfl, -⟩ := id hG.edges
  obtain ⟨xs, _, _, rfl, -⟩ := id hG.sets
  refine nd fun b7 w7 e7 s7 k7 m7 => ?_
  refine st agree (cs := cellsL ti28.zero) m7 rfl (Nat.le_refl 5) rfl ?_
  intro w8 s8 k8 m7
  have m7 : Own w8 b7 28 [.slice (some ⟨xp, 0, none⟩) g.props.length (g.props.length + 2), .int .i64 g.states, .slice (some ⟨xi, 0, none⟩) g.init.length (g.init.length + 2), .slice (some ⟨xe, 0, none⟩) g.edges.length (g.edges.length + 2), .slice (some ⟨xs, 0, none⟩) g.sets.length (g.sets.length + 1)] := m7
  have k68 : Kp w6 w8 := k7.new e7 k8
  have k58 := k6.trans k68
  have k18 := k15.trans k58
  have hG := hG.chg k68 (fun _ _ _ h => h)
  have m6 := k58.own m6 id
  have m2 := k58.own m2 id
  refine ld (v := .agg #[.slice pa g.props.length pc, .int .i64 g.states, .slice ia g.init.length ic, .slice ea g.edges.length ec, .slice fa final.length fc]) agree (Own.at_ (xs := [.slice pa g.props.length pc, .int .i64 g.states, .slice ia g.init.length ic, .slice ea g.edges.length ec, .slice fa final.length fc]) (o := 0) m6 rfl) (by rfl) ?_
  have hcall := lentBuchi_c (hbin k18)
  refine cl callLentBuchi hcall ?_
  rintro _ w9 ⟨k9, tp, ti, te, tf, rfl, hB⟩
  obtain ⟨yp, rfl, -⟩ := id hB.props
  obtain ⟨yi, rfl, -⟩ := id hB.init
  obtain ⟨ye, rfl, -⟩ := id hB.edges
  obtain ⟨yf, rfl, -⟩ := id hB.final
  refine nd fun b8 w10 e10 s10 k10 m8 => ?_
  refine st agree (cs := cellsL ti31.zero) m8 rfl (Nat.le_refl 5) rfl ?_
  intro w11 s11 k11 m8
  have m8 : Own w11 b8 31 [.slice (some ⟨yp, 0, none⟩) g.props.length (g.props.length + 2), .int .i64 g.states, .slice (some ⟨yi, 0, none⟩) g.init.length (g.init.length + 2), .slice (some ⟨ye, 0, none⟩) g.edges.length (g.edges.length + 2), .slice (some ⟨yf, 0, none⟩) final.length (final.length + 2)] := m8
  have k911 : Kp w9 w11 := k10.new e10 k11
  have k811 := k9.trans k911
  have k111 := k18.trans k811
  have hG := hG.chg k811 (fun _ _ _ h => h)
  have hB := hB.chg k911 (fun _ _ _ h => h)
  have m7 := k811.own m7 id
  have m6 := k811.own m6 id
  have m2 := k811.own m2 id
  have z5 := k15.size
  have z6 := k6.size
  have z9 := k9.size
  have L2 := m2.lt
  have hb2 : b2 < w5.heap.size := by have := k1.size; have := k15.size; have := (k2.trans (k3.trans k35)).size; omega
  have hb6 : b6 < w5.heap.size := by omega
  have hGv := (hG.row hv).gen
  have hBv := (hB.row (hbin k111)).gen
  refine ld (v := .agg #[.slice (some ⟨xp, 0, none⟩) g.props.length (g.props.length + 2), .int .i64 g.states, .slice (some ⟨xi, 0, none⟩) g.init.length (g.init.length + 2), .slice (some ⟨xe, 0, none⟩) g.edges.length (g.edges.length + 2), .slice (some ⟨xs, 0, none⟩) g.sets.length (g.sets.length + 1)]) agree (Own.at_ (xs := [.slice (some ⟨xp, 0, none⟩) g.props.length (g.props.length + 2), .int .i64 g.states, .slice (some ⟨xi, 0, none⟩) g.init.length (g.init.length + 2), .slice (some ⟨xe, 0, none⟩) g.edges.length (g.edges.length + 2), .slice (some ⟨xs, 0, none⟩) g.sets.length (g.sets.length + 1)]) (o := 0) m7 rfl) (by rfl) ?_
  refine cl callCheckG (check_c hGv) ?_
  rintro _ w12 ⟨rfl, k12'⟩
  have k1 := k111.trans k12'
  have hG := hG.chg k12' (fun _ _ _ h => h)
  have hB := hB.chg k12' (fun _ _ _ h => h)
  have m8 := k12'.own m8 id
  have m7 := k12'.own m7 id
  have m6 := k12'.own m6 id
  have m2 := k12'.own m2 id
  refine ld (v := .agg #[.slice (some ⟨yp, 0, none⟩) g.props.length (g.props.length + 2), .int .i64 g.states, .slice (some ⟨yi, 0, none⟩) g.init.length (g.init.length + 2), .slice (some ⟨ye, 0, none⟩) g.edges.length (g.edges.length + 2), .slice (some ⟨yf, 0, none⟩) final.length (final.length + 2)]) agree (Own.at_ (xs := [.slice (some ⟨yp, 0, none⟩) g.props.length (g.props.length + 2), .int .i64 g.states, .slice (some ⟨yi, 0, none⟩) g.init.length (g.init.length + 2), .slice (some ⟨ye, 0, none⟩) g.edges.length (g.edges.length + 2), .slice (some ⟨yf, 0, none⟩) final.length (final.length + 2)]) (o := 0) m8 rfl) (by rfl) ?_
  have hcall := checkB_c (hB.row (hbin k1)).gen
  refine cl callCheck hcall ?_
  rintro _ w13 ⟨rfl, k13'⟩
  replace k1 := k1.trans k13'
  replace hG := hG.chg k13' (fun _ _ _ h => h)
  replace hB := hB.chg k13' (fun _ _ _ h => h)
  replace m8 := k13'.own m8 id
  replace m7 := k13'.own m7 id
  replace m6 := k13'.own m6 id
  replace m2 := k13'.own m2 id
  refine ld (v := .agg #[.slice (some ⟨xp, 0, none⟩) g.props.length (g.props.length + 2), .int .i64 g.states, .slice (some ⟨xi, 0, none⟩) g.init.length (g.init.length + 2), .slice (some ⟨xe, 0, none⟩) g.edges.length (g.edges.length + 2), .slice (some ⟨xs, 0, none⟩) g.sets.length (g.sets.length + 1)]) agree (Own.at_ (xs := [.slice (some ⟨xp, 0, none⟩) g.props.length (g.props.length + 2), .int .i64 g.states, .slice (some ⟨xi, 0, none⟩) g.init.length (g.init.length + 2), .slice (some ⟨xe, 0, none⟩) g.edges.length (g.edges.length + 2), .slice (some ⟨xs, 0, none⟩) g.sets.length (g.sets.length + 1)]) (o := 0) m7 rfl) (by rfl) ?_
  refine ld (v := .agg #[.slice pa g.props.length pc, .int .i64 g.states, .slice ia g.init.length ic, .slice ea g.edges.length ec, sv]) agree (Own.at_ (xs := [.slice pa g.props.length pc, .int .i64 g.states, .slice ia g.init.length ic, .slice ea g.edges.length ec, sv]) (o := 0) m2 rfl) (by rfl) ?_
  refine cl callWholeGeneral (wholeGeneral_c hG (hgin k1)) ?_
  rintro _ w14 ⟨rfl, k14'⟩
  replace k1 := k1.trans k14'
  replace hG := hG.chg k14' (fun _ _ _ h => h)
  replace hB := hB.chg k14' (fun _ _ _ h => h)
  replace m8 := k14'.own m8 id
  replace m7 := k14'.own m7 id
  replace m6 := k14'.own m6 id
  replace m2 := k14'.own m2 id
  refine ld (v := .agg #[.slice (some ⟨yp, 0, none⟩) g.props.length (g.props.length + 2), .int .i64 g.states, .slice (some ⟨yi, 0, none⟩) g.init.length (g.init.length + 2), .slice (some ⟨ye, 0, none⟩) g.edges.length (g.edges.length + 2), .slice (some ⟨yf, 0, none⟩) final.length (final.length + 2)]) agree (Own.at_ (xs := [.slice (some ⟨yp, 0, none⟩) g.props.length (g.props.length + 2), .int .i64 g.states, .slice (some ⟨yi, 0, none⟩) g.init.length (g.init.length + 2), .slice (some ⟨ye, 0, none⟩) g.edges.length (g.edges.length + 2), .slice (some ⟨yf, 0, none⟩) final.length (final.length + 2)]) (o := 0) m8 rfl) (by rfl) ?_
  refine ld (v := .agg #[.slice pa g.props.length pc, .int .i64 g.states, .slice ia g.init.length ic, .slice ea g.edges.length ec, .slice fa final.length fc]) agree (Own.at_ (xs := [.slice pa g.props.length pc, .int .i64 g.states, .slice ia g.init.length ic, .slice ea g.edges.length ec, .slice fa final.length fc]) (o := 0) m6 rfl) (by rfl) ?_
  have hcall := wholeBuchi_c hB (hbin k1)
  refine cl callWholeBuchi hcall ?_
  rintro _ w15 ⟨rfl, k15'⟩
  replace k1 := k1.trans k15'
  replace hG := hG.chg k15' (fun _ _ _ h => h)
  replace hB := hB.chg k15' (fun _ _ _ h => h)
  replace m8 := k15'.own m8 id
  replace m7 := k15'.own m7 id
  replace m6 := k15'.own m6 id
  replace m2 := k15'.own m2 id
  have zz := (k12'.trans (k13'.trans (k14'.trans k15'))).size
  refine ld (v := .agg #[.slice (some ⟨xp, 0, none⟩) g.props.length (g.props.length + 2), .int .i64 g.states, .slice (some ⟨xi, 0, none⟩) g.init.length (g.init.length + 2), .slice (some ⟨xe, 0, none⟩) g.edges.length (g.edges.length + 2), .slice (some ⟨xs, 0, none⟩) g.sets.length (g.sets.length + 1)]) agree (Own.at_ (xs := [.slice (some ⟨xp, 0, none⟩) g.props.length (g.props.length + 2), .int .i64 g.states, .slice (some ⟨xi, 0, none⟩) g.init.length (g.init.length + 2), .slice (some ⟨xe, 0, none⟩) g.edges.length (g.edges.length + 2), .slice (some ⟨xs, 0, none⟩) g.sets.length (g.sets.length + 1)]) (o := 0) m7 rfl) (by rfl) ?_
  refine cl callSpoilGeneral (spoilGeneral_c hG hv (by omega)) ?_
  rintro _ w16 ⟨c16, g', hg', hG'⟩
  replace hB := hB.chg c16 (fun _ _ _ h => by omega)
  replace m8 := c16.own m8 (by omega)
  replace m7 := c16.own m7 (by omega)
  replace m6 := c16.own m6 (by omega)
  replace m2 := c16.own m2 (by omega)
  have z16 := c16.size
  refine ld (v := .agg #[.slice (some ⟨yp, 0, none⟩) g.props.length (g.props.length + 2), .int .i64 g.states, .slice (some ⟨yi, 0, none⟩) g.init.length (g.init.length + 2), .slice (some ⟨ye, 0, none⟩) g.edges.length (g.edges.length + 2), .slice (some ⟨yf, 0, none⟩) final.length (final.length + 2)]) agree (Own.at_ (xs := [.slice (some ⟨yp, 0, none⟩) g.props.length (g.props.length + 2), .int .i64 g.states, .slice (some ⟨yi, 0, none⟩) g.init.length (g.init.length + 2), .slice (some ⟨ye, 0, none⟩) g.edges.length (g.edges.length + 2), .slice (some ⟨yf, 0, none⟩) final.length (final.length + 2)]) (o := 0) m8 rfl) (by rfl) ?_
  have hcall := spoilBuchi_c hB (hbin (Chg.refl _ _)) (by omega)
  refine cl callSpoilBuchi hcall ?_
  rintro _ w17 ⟨c17, a', ha', hB'⟩
  replace hG' := hG' w17 (c17.mono fun k hk => by omega)
  replace m8 := c17.own m8 (by omega)
  replace m7 := c17.own m7 (by omega)
  replace m6 := c17.own m6 (by omega)
  replace m2 := c17.own m2 (by omega)
  have z17 := c17.size
  have K : Kp w w17 := (k1.newT c16 fun i hi => .inr (by omega)).newT c17 fun i hi => .inr (by omega)
  refine ld (v := .agg #[.slice (some ⟨xp, 0, none⟩) g.props.length (g.props.length + 2), .int .i64 g.states, .slice (some ⟨xi, 0, none⟩) g.init.length (g.init.length + 2), .slice (some ⟨xe, 0, none⟩) g.edges.length (g.edges.length + 2), .slice (some ⟨xs, 0, none⟩) g.sets.length (g.sets.length + 1)]) agree (Own.at_ (xs := [.slice (some ⟨xp, 0, none⟩) g.props.length (g.props.length + 2), .int .i64 g.states, .slice (some ⟨xi, 0, none⟩) g.init.length (g.init.length + 2), .slice (some ⟨xe, 0, none⟩) g.edges.length (g.edges.length + 2), .slice (some ⟨xs, 0, none⟩) g.sets.length (g.sets.length + 1)]) (o := 0) m7 rfl) (by rfl) ?_
  have hcall := check_c hG'
  rw [hg'] at hcall
  refine cl callCheckG hcall ?_
  rintro _ w18 ⟨rfl, k18'⟩
  refine ld (v := .agg #[.slice (some ⟨yp, 0, none⟩) g.props.length (g.props.length + 2), .int .i64 g.states, .slice (some ⟨yi, 0, none⟩) g.init.length (g.init.length + 2), .slice (some ⟨ye, 0, none⟩) g.edges.length (g.edges.length + 2), .slice (some ⟨yf, 0, none⟩) final.length (final.length + 2)]) agree (Own.at_ (xs := [.slice (some ⟨yp, 0, none⟩) g.props.length (g.props.length + 2), .int .i64 g.states, .slice (some ⟨yi, 0, none⟩) g.init.length (g.init.length + 2), .slice (some ⟨ye, 0, none⟩) g.edges.length (g.edges.length + 2), .slice (some ⟨yf, 0, none⟩) final.length (final.length + 2)]) (o := 0) (k18'.own m8 id) rfl) (by rfl) ?_
  have hcall := checkB_c (hB'.chg k18' (Nat.le_refl _) (Nat.le_refl _))
  rw [ha'] at hcall
  refine cl callCheck hcall ?_
  rintro _ w19 ⟨rfl, k19'⟩
  have q := k18'.trans k19'
  refine ld (v := .agg #[.slice (some ⟨xp, 0, none⟩) g.props.length (g.props.length + 2), .int .i64 g.states, .slice (some ⟨xi, 0, none⟩) g.init.length (g.init.length + 2), .slice (some ⟨xe, 0, none⟩) g.edges.length (g.edges.length + 2), .slice (some ⟨xs, 0, none⟩) g.sets.length (g.sets.length + 1)]) agree (Own.at_ (xs := [.slice (some ⟨xp, 0, none⟩) g.props.length (g.props.length + 2), .int .i64 g.states, .slice (some ⟨xi, 0, none⟩) g.init.length (g.init.length + 2), .slice (some ⟨xe, 0, none⟩) g.edges.length (g.edges.length + 2), .slice (some ⟨xs, 0, none⟩) g.sets.length (g.sets.length + 1)]) (o := 0) (q.own m7 id) rfl) (by rfl) ?_
  have hcall := rcheck_c (hG'.chg q (Nat.le_refl _) (Nat.le_refl _))
  rw [hg'] at hcall
  refine cl callRCheckG hcall ?_
  rintro _ w20 ⟨rfl, k20'⟩
  replace q := q.trans k20'
  refine spT rfl ?_
  refine ld (v := .agg #[.slice (some ⟨yp, 0, none⟩) g.props.length (g.props.length + 2), .int .i64 g.states, .slice (some ⟨yi, 0, none⟩) g.init.length (g.init.length + 2), .slice (some ⟨ye, 0, none⟩) g.edges.length (g.edges.length + 2), .slice (some ⟨yf, 0, none⟩) final.length (final.length + 2)]) agree (Own.at_ (xs := [.slice (some ⟨yp, 0, none⟩) g.props.length (g.props.length + 2), .int .i64 g.states, .slice (some ⟨yi, 0, none⟩) g.init.length (g.init.length + 2), .slice (some ⟨ye, 0, none⟩) g.edges.length (g.edges.length + 2), .slice (some ⟨yf, 0, none⟩) final.length (final.length + 2)]) (o := 0) (q.own m8 id) rfl) (by rfl) ?_
  have hcall := rcheckB_c (hB'.chg q (Nat.le_refl _) (Nat.le_refl _))
  rw [ha'] at hcall
  refine cl callRCheck hcall ?_
  rintro _ w21 ⟨rfl, k21'⟩
  replace q := q.trans k21'
  refine spT rfl ?_
  refine ld (v := .agg #[.slice pa g.props.length pc, .int .i64 g.states, .slice ia g.init.length ic, .slice ea g.edges.length ec, sv]) agree (Own.at_ (xs := [.slice pa g.props.length pc, .int .i64 g.states, .slice ia g.init.length ic, .slice ea g.edges.length ec, sv]) (o := 0) (q.own m2 id) rfl) (by rfl) ?_
  refine cl callRCheckG (rcheck_c (hgin (K.trans q)).gen) ?_
  rintro _ w22 ⟨rfl, k22'⟩
  replace q := q.trans k22'
  refine spT rfl ?_
  refine ld (v := .agg #[.slice pa g.props.length pc, .int .i64 g.states, .slice ia g.init.length ic, .slice ea g.edges.length ec, .slice fa final.length fc]) agree (Own.at_ (xs := [.slice pa g.props.length pc, .int .i64 g.states, .slice ia g.init.length ic, .slice ea g.edges.length ec, .slice fa final.length fc]) (o := 0) (q.own m6 id) rfl) (by rfl) ?_
  have hcall := rcheckB_c (hbin (K.trans q)).gen
  refine cl callRCheck hcall ?_
  rintro _ w23 ⟨rfl, k23'⟩
  refine spT rfl ?_
  exact ⟨rfl, K.trans (q.trans k23')⟩
end Go.Au
