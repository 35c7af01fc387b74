/- Own text of this workplace: a part of the proofs of this place's statements. -/
import Derived.Test.YtjibhchnhkjgkaaB32
set_option linter.unusedVariables false
set_option linter.unusedSimpArgs false
set_option linter.unusedSectionVars false
namespace Go.Au
open Go Go.RowKit

set_option maxHeartbeats 8000000 in
theorem lawAccepts_c {w : World} {pv iv ev sv stv lov : Value} {g : General} {x : Word} (hv : Gin 0 w.heap.size w pv iv ev sv g) (hw : Win 0 w.heap.size w stv lov x) :
    Calls Proofs.Try.prog 5 [.agg #[pv, .int .i64 g.states, iv, ev, sv], .agg #[stv, lov]].toArray w (Ret fun r w' => r = .bool true ∧ Kp w w') := by
  obtain ⟨pa, pc, rfl, -⟩ := id hv.props
  obtain ⟨ia, ic, rfl, -⟩ := id hv.init
  obtain ⟨ea, ec, rfl, -⟩ := id hv.edges
  obtain ⟨sa, sc, rfl, -⟩ := id hv.sets
  obtain ⟨wa1, wc1, rfl, -⟩ := id hw.stem
  obtain ⟨wa2, wc2, rfl, -⟩ := id hw.loop
  have hgin : ∀ {W}, Kp w W → Gin 0 w.heap.size W (.slice pa g.props.length pc) (.slice ia g.init.length ic) (.slice ea g.edges.length ec) (.slice sa g.sets.length sc) g := fun k => hv.chg k fun _ _ _ h => h
  have hwin : ∀ {W}, Kp w W → Win 0 w.heap.size W (.slice wa1 x.stem.length wc1) (.slice wa2 x.loop.length wc2) x := fun k => hw.chg k fun _ _ _ h => h
  have hgen : ∀ {W}, Kp w W → GenV 0 W.heap.size W (.slice pa g.props.length pc) (.slice ia g.init.length ic) (.slice ea g.edges.length ec) (.slice sa g.sets.length sc) g := fun k => (hgin k).gen.chg (Chg.refl _ _) (Nat.le_refl _) k.size
  have hwrd : ∀ {W}, Kp w W → WordV 0 W.heap.size W (.slice wa1 x.stem.length wc1) (.slice wa2 x.loop.length wc2) x := fun k => (hwin k).word.chg (Chg.refl _ _) (Nat.le_refl _) k.size
  refine call agree Proofs.Try.func5 rfl Proofs.Try.ntmps5 (by kernel_rfl) ?_
  refine nd fun b2 w1 e1 s1 k1 m2 => ?_
  have m2 : Own w1 b2 28 [(.slice pa g.props.length pc), .int .i64 g.states, (.slice ia g.init.length ic), (.slice ea g.edges.length ec), (.slice sa g.sets.length sc)] := m2
  refine nd fun b3 w2 e2 s2 k2 m3 => ?_
  have m3 : Own w2 b3 44 [(.slice wa1 x.stem.length wc1), (.slice wa2 x.loop.length wc2)] := m3
  have m2 := k2.own m2 id
  have K2 := k1.trans k2
  refine ld (v := .agg #[(.slice pa g.props.length pc), .int .i64 g.states, (.slice ia g.init.length ic), (.slice ea g.edges.length ec), (.slice sa g.sets.length sc)]) agree (Own.at_ (xs := [(.slice pa g.props.length pc), .int .i64 g.states, (.slice ia g.init.length ic), (.slice ea g.edges.length ec), (.slice sa g.sets.length sc)]) (o := 0) m2 rfl) (by rfl) ?_
  refine ld (v := .agg #[(.slice wa1 x.stem.length wc1), (.slice wa2 x.loop.length wc2)]) agree (Own.at_ (xs := [(.slice wa1 x.stem.length wc1), (.slice wa2 x.loop.length wc2)]) (o := 0) m3 rfl) (by rfl) ?_
  refine cl callFew (few_c w2 _ _ ea sa wa1 wa2 ec sc wc1 wc2 g x hw.ls hw.ll) ?_
  rintro _ w3 ⟨k3, fw, rfl, hfw⟩
  have K3 := K2.trans k3
  cases fw with
  | false => exact ⟨rfl, K3⟩
  | true =>
  have hF : Few g x := hfw rfl
  have hE : g.edges.length < 1099511627776 := by have := hF.ed; omega
  have hP := few_le hF
  refine cl callKnown (known_c w3) ?_
  rintro _ w4 ⟨rfl, k4⟩
  have K4 := K3.trans k4
  have m2 := (k3.trans k4).own m2 id
  have m3 := (k3.trans k4).own m3 id
  refine ld (v := .agg #[(.slice pa g.props.length pc), .int .i64 g.states, (.slice ia g.init.length ic), (.slice ea g.edges.length ec), (.slice sa g.sets.length sc)]) agree (Own.at_ (xs := [(.slice pa g.props.length pc), .int .i64 g.states, (.slice ia g.init.length ic), (.slice ea g.edges.length ec), (.slice sa g.sets.length sc)]) (o := 0) m2 rfl) (by rfl) ?_
  refine cl callLentGeneral (lentGeneral_c (hgin K4)) ?_
  rintro _ w5 ⟨k5, lp, li, le, ls, rfl, hG⟩
  obtain ⟨xp, rfl, -⟩ := id hG.props
  obtain ⟨xi, rfl, -⟩ := id hG.init
  obtain ⟨xe, rfl, xe1, xe2, mE⟩ := id hG.edges
  obtain ⟨xs, _, _, rfl, -⟩ := id hG.sets
  refine nd fun b6 w6 e6 s6 k6 m6 => ?_
  refine st agree (cs := cellsL ti28.zero) m6 rfl (Nat.le_refl 5) rfl ?_
  intro w7 s7 k7 m6
  have m6 : Own w7 b6 28 [(.slice (some ⟨xp, 0, none⟩) g.props.length (g.props.length + 2)), .int .i64 g.states, (.slice (some ⟨xi, 0, none⟩) g.init.length (g.init.length + 2)), (.slice (some ⟨xe, 0, none⟩) g.edges.length (g.edges.length + 2)), (.slice (some ⟨xs, 0, none⟩) g.sets.length (g.sets.length + 1))] := m6
  have k57 : Kp w5 w7 := k6.new e6 k7
  have k47 := k5.trans k57
  have K7 := K4.trans k47
  have hG := hG.chg k57 (fun _ _ _ h => h)
  have mE := k57.own mE id
  have m2 := k47.own m2 id
  have m3 := k47.own m3 id
  refine ld (v := .agg #[(.slice wa1 x.stem.length wc1), (.slice wa2 x.loop.length wc2)]) agree (Own.at_ (xs := [(.slice wa1 x.stem.length wc1), (.slice wa2 x.loop.length wc2)]) (o := 0) m3 rfl) (by rfl) ?_
  refine cl callLentWord (lentWord_c (hwin K7)) ?_
  rintro _ w8 ⟨k8, ys, yl, rfl, hW⟩
  obtain ⟨ys, rfl, -⟩ := id hW.stem
  obtain ⟨yl, rfl, yl1, yl2, mL⟩ := id hW.loop
  refine nd fun b7 w9 e9 s9 k9 m7 => ?_
  refine st agree (cs := cellsL ti44.zero) m7 rfl (Nat.le_refl 2) rfl ?_
  intro w10 s10 k10 m7
  have m7 : Own w10 b7 44 [(.slice (some ⟨ys, 0, none⟩) x.stem.length (x.stem.length + 2)), (.slice (some ⟨yl, 0, none⟩) x.loop.length (x.loop.length + 2))] := m7
  have k810 : Kp w8 w10 := k9.new e9 k10
  have k710 := k8.trans k810
  have K10 := K7.trans k710
  have hG := hG.chg k710 (fun _ _ _ h => h)
  have hW := hW.chg k810 (fun _ _ _ h => h)
  have mE := k710.own mE id
  have mL := k810.own mL id
  have m2 := k710.own m2 id
  have m3 := k710.own m3 id
  have m6 := k710.own m6 id
  have z4 := K4.size
  have z5 := k5.size
  have z7 := k57.size
  have z8 := k8.size
  have z10 := k810.size
  -- the program over what is lent
  have hGv : ∀ {W}, Kp w10 W → GenV 0 W.heap.size W (.slice (some ⟨xp, 0, none⟩) g.props.length (g.props.length + 2)) (.slice (some ⟨xi, 0, none⟩) g.init.length (g.init.length + 2)) (.slice (some ⟨xe, 0, none⟩) g.edges.length (g.edges.length + 2)) (.slice (some ⟨xs, 0, none⟩) g.sets.length (g.sets.length + 1)) g := fun k => ((hG.chg k fun _ _ _ h => h).row hv).gen.chg (Chg.refl _ _) (Nat.zero_le _) (by have := k.size; omega)
  have hWv : ∀ {W}, Kp w10 W → WordV 0 W.heap.size W (.slice (some ⟨ys, 0, none⟩) x.stem.length (x.stem.length + 2)) (.slice (some ⟨yl, 0, none⟩) x.loop.length (x.loop.length + 2)) x := fun k => ((hW.chg k fun _ _ _ h => h).row hw.ls hw.ll).word.chg (Chg.refl _ _) (Nat.zero_le _) (by have := k.size; omega)
  refine ld (v := .agg #[(.slice (some ⟨xp, 0, none⟩) g.props.length (g.props.length + 2)), .int .i64 g.states, (.slice (some ⟨xi, 0, none⟩) g.init.length (g.init.length + 2)), (.slice (some ⟨xe, 0, none⟩) g.edges.length (g.edges.length + 2)), (.slice (some ⟨xs, 0, none⟩) g.sets.length (g.sets.length + 1))]) agree (Own.at_ (xs := [(.slice (some ⟨xp, 0, none⟩) g.props.length (g.props.length + 2)), .int .i64 g.states, (.slice (some ⟨xi, 0, none⟩) g.init.length (g.init.length + 2)), (.slice (some ⟨xe, 0, none⟩) g.edges.length (g.edges.length + 2)), (.slice (some ⟨xs, 0, none⟩) g.sets.length (g.sets.length + 1))]) (o := 0) m6 rfl) (by rfl) ?_
  refine ld (v := .agg #[(.slice (some ⟨ys, 0, none⟩) x.stem.length (x.stem.length + 2)), (.slice (some ⟨yl, 0, none⟩) x.loop.length (x.loop.length + 2))]) agree (Own.at_ (xs := [(.slice (some ⟨ys, 0, none⟩) x.stem.length (x.stem.length + 2)), (.slice (some ⟨yl, 0, none⟩) x.loop.length (x.loop.length + 2))]) (o := 0) m7 rfl) (by rfl) ?_
  refine cl callAcceptsG (acceptsG_c (hGv (Chg.refl _ _)) (hWv (Chg.refl _ _)) hE hP) ?_
  rintro _ w11 ⟨rfl, k11⟩
  have q := k11
  refine ld (v := .agg #[(.slice (some ⟨xp, 0, none⟩) g.props.length (g.props.length + 2)), .int .i64 g.states, (.slice (some ⟨xi, 0, none⟩) g.init.length (g.init.length + 2)), (.slice (some ⟨xe, 0, none⟩) g.edges.length (g.edges.length + 2)), (.slice (some ⟨xs, 0, none⟩) g.sets.length (g.sets.length + 1))]) agree (Own.at_ (xs := [(.slice (some ⟨xp, 0, none⟩) g.props.length (g.props.length + 2)), .int .i64 g.states, (.slice (some ⟨xi, 0, none⟩) g.init.length (g.init.length + 2)), (.slice (some ⟨xe, 0, none⟩) g.edges.length (g.edges.length + 2)), (.slice (some ⟨xs, 0, none⟩) g.sets.length (g.sets.length + 1))]) (o := 0) (q.own m6 id) rfl) (by rfl) ?_
  refine ld (v := .agg #[(.slice pa g.props.length pc), .int .i64 g.states, (.slice ia g.init.length ic), (.slice ea g.edges.length ec), (.slice sa g.sets.length sc)]) agree (Own.at_ (xs := [(.slice pa g.props.length pc), .int .i64 g.states, (.slice ia g.init.length ic), (.slice ea g.edges.length ec), (.slice sa g.sets.length sc)]) (o := 0) (q.own m2 id) rfl) (by rfl) ?_
  refine cl callWholeGeneral (wholeGeneral_c (hG.chg q fun _ _ _ h => h) (hgin (K10.trans q))) ?_
  rintro _ w12 ⟨rfl, k12⟩
  have q := q.trans k12
  refine ld (v := .agg #[(.slice (some ⟨ys, 0, none⟩) x.stem.length (x.stem.length + 2)), (.slice (some ⟨yl, 0, none⟩) x.loop.length (x.loop.length + 2))]) agree (Own.at_ (xs := [(.slice (some ⟨ys, 0, none⟩) x.stem.length (x.stem.length + 2)), (.slice (some ⟨yl, 0, none⟩) x.loop.length (x.loop.length + 2))]) (o := 0) (q.own m7 id) rfl) (by rfl) ?_
  refine ld (v := .agg #[(.slice wa1 x.stem.length wc1), (.slice wa2 x.loop.length wc2)]) agree (Own.at_ (xs := [(.slice wa1 x.stem.length wc1), (.slice wa2 x.loop.length wc2)]) (o := 0) (q.own m3 id) rfl) (by rfl) ?_
  refine cl callWholeWord (wholeWord_c (hW.chg q fun _ _ _ h => h) (hwin (K10.trans q))) ?_
  rintro _ w13 ⟨rfl, k13⟩
  have q := q.trans k13
  refine ld (v := .agg #[(.slice pa g.props.length pc), .int .i64 g.states, (.slice ia g.init.length ic), (.slice ea g.edges.length ec), (.slice sa g.sets.length sc)]) agree (Own.at_ (xs := [(.slice pa g.props.length pc), .int .i64 g.states, (.slice ia g.init.length ic), (.slice ea g.edges.length ec), (.slice sa g.sets.length sc)]) (o := 0) (q.own m2 id) rfl) (by rfl) ?_
  refine ld (v := .agg #[(.slice wa1 x.stem.length wc1), (.slice wa2 x.loop.length wc2)]) agree (Own.at_ (xs := [(.slice wa1 x.stem.length wc1), (.slice wa2 x.loop.length wc2)]) (o := 0) (q.own m3 id) rfl) (by rfl) ?_
  refine cl callRAcceptsG (racceptsG_c (hgen (K10.trans q)) (hwrd (K10.trans q)) hF) ?_
  rintro _ w14 ⟨rfl, k14⟩
  have q := q.trans k14
  refine spF (fun h => h rfl) ?_
  refine spF (fun h => h rfl) ?_
  -- another word in the same lists
  have m2 := q.own m2 id
  have m3 := q.own m3 id
  have m6 := q.own m6 id
  have m7 := q.own m7 id
  have mE := q.own mE id
  have mL := q.own mL id
  have hG := hG.chg q (fun _ _ _ h => h)
  have hW := hW.chg q (fun _ _ _ h => h)
  have K14 := K10.trans q
  have hll := hw.ll
  have z14 := q.size
  refine loop agree (σ := Nat) (fun i => [(2, pt b2 0), (3, pt b3 0), (6, pt b6 0), (7, pt b7 0), (13, .int .i64 i)]) (fun i w' => Chg (fun k => k = yl) w14 w' ∧ i ≤ x.loop.length ∧ Own w' yl 50 (((x.loop.take i).map xr ++ x.loop.drop i).flatMap fU ++ lentUM)) (fun i => x.loop.length - i) 0
    ⟨rfl, rfl, rfl, rfl, rfl, trivial⟩ ⟨Chg.refl _ _, by omega, by simpa using mL⟩ ?_
  rintro i e0 w' ⟨c', hi, mL'⟩
  have m7' : Own w' b7 44 [(.slice (some ⟨ys, 0, none⟩) x.stem.length (x.stem.length + 2)), (.slice (some ⟨yl, 0, none⟩) x.loop.length (x.loop.length + 2))] := c'.own m7 (own_ne m7 mL (by decide))
  refine ld agree (Own.at_ (xs := [(.slice (some ⟨yl, 0, none⟩) x.loop.length (x.loop.length + 2))]) (o := 1) m7' rfl) (by rfl) ?_
  refine sp (fun hlt => ?_) (fun hge => ?_)
  · have hi' : i < x.loop.length := by omega
    have hLl : ((x.loop.take i).map xr ++ x.loop.drop i).length = x.loop.length := tk_len _ hi
    have hLi : ((x.loop.take i).map xr ++ x.loop.drop i)[i]? = some x.loop[i] := tk_get _ hi'
    refine drawn0 agree mixed 10 (by kernel_rfl) (fun _ => False) ?_
    conv => whnf
    refine ldk agree rfl rfl (fun W h _ => Own.at_ (xs := [(.slice (some ⟨yl, 0, none⟩) x.loop.length (x.loop.length + 2))]) (o := 1) (h.own m7' id) rfl) (by rfl) fun _ => ?_
    conv => whnf
    refine ldk agree rfl rfl (fun W h _ => Own.at_ (xs := [(.slice (some ⟨yl, 0, none⟩) x.loop.length (x.loop.length + 2))]) (o := 1) (h.own m7' id) rfl) (by rfl) fun _ => ?_
    conv => whnf
    refine ne ⟨by omega, by omega⟩ ?_
    conv => whnf
    refine ldk (v := .int .u16 x.loop[i]) agree rfl rfl (fun W h _ => by rw [Int.toNat_natCast]; exact flat_range (f := fU) (fun _ => rfl) hLi (Own.all (h.own mL' id))) (by rfl) fun _ => ?_
    conv => whnf
    refine ar ?_
    conv => whnf
    refine ne ⟨by omega, by omega⟩ ?_
    conv => whnf
    intro W h _
    refine st agree (h.own mL' id) rfl (by rw [Int.toNat_natCast, List.length_append, flat_len (f := fU) (size := 1) (fun _ => rfl), hLl]; show 0 + i * 1 + 1 ≤ _; omega) rfl ?_
    intro w2 s2 k2 m2
    rw [Int.toNat_natCast] at m2
    refine aw (by omega) (by omega) ?_
    refine again (i + 1) ⟨rfl, rfl, rfl, rfl, rfl, trivial⟩ ⟨(c'.trans (h.mono fun _ hf => hf.elim)).trans k2, by omega, ?_⟩ (by omega)
    have m2 : Own w2 yl 50 (lay (((x.loop.take i).map xr ++ x.loop.drop i).flatMap fU ++ lentUM) (0 + i * 1) [.int .u16 (xr x.loop[i])]) := m2
    rw [let_lay _ (by omega), xr_next hi'] at m2
    exact m2
  have hin : i = x.loop.length := by omega
  subst hin
  rw [xr_done] at mL'
  -- the word is another one now
  obtain ⟨x', hx'⟩ : ∃ x' : Word, x' = ⟨x.stem, x.loop.map xr⟩ := ⟨_, rfl⟩
  have hF' : Few g x' := by rw [hx']; exact ⟨hF.st, hF.ed, hF.se, by have := hF.pl; simpa using this⟩
  have hP' := few_le hF'
  have hlt7 : w7.heap.size ≤ yl := yl1
  have hysl : ys ≠ yl := fun h => hW.sep (by rw [h]; rfl)
  have hG := hG.chg c' (fun k h1 h2 => by omega)
  have m2 := c'.own m2 (own_ne m2 mL (by decide))
  have m3 := c'.own m3 (own_ne m3 mL (by decide))
  have m6 := c'.own m6 (own_ne m6 mL (by decide))
  have mE := c'.own mE (own_ne mE mL (by decide))
  have hSt : LentLetters w7.heap.size w8.heap.size w' (.slice (some ⟨ys, 0, none⟩) x.stem.length (x.stem.length + 2)) x.stem := by
    obtain ⟨b, hb, h1, h2, hm⟩ := hW.stem
    cases hb
    exact ⟨ys, rfl, h1, h2, c'.own hm hysl⟩
  have hLo : LentLetters w7.heap.size w8.heap.size w' (.slice (some ⟨yl, 0, none⟩) x.loop.length (x.loop.length + 2)) (x.loop.map xr) := ⟨yl, by simp, yl1, yl2, mL'⟩
  have zw' := c'.size
  have hll0 := hw.ls
  have hWl : WordV w7.heap.size w8.heap.size w' (.slice (some ⟨ys, 0, none⟩) x.stem.length (x.stem.length + 2)) (.slice (some ⟨yl, 0, none⟩) x.loop.length (x.loop.length + 2)) x' := by
    rw [hx']
    exact (show WordV w7.heap.size w8.heap.size w' (.slice (some ⟨ys, 0, none⟩) x.stem.length (x.stem.length + 2)) (.slice (some ⟨yl, 0, none⟩) x.loop.length (x.loop.length + 2)) ⟨x.stem, x.loop.map xr⟩ from ⟨(hSt.row (fun _ => rfl)).and hW.ws, (hLo.row (fun _ => rfl)).and (fun c hc => by obtain ⟨a, -, rfl⟩ := List.mem_map.1 hc; exact xr_range a), by show x.stem.length < _; omega, by show (x.loop.map xr).length < _; rw [List.length_map]; omega⟩)
  have hWv' : ∀ {W}, Kp w' W → WordV 0 W.heap.size W (.slice (some ⟨ys, 0, none⟩) x.stem.length (x.stem.length + 2)) (.slice (some ⟨yl, 0, none⟩) x.loop.length (x.loop.length + 2)) x' := fun k => hWl.chg k (Nat.zero_le _) (by have := k.size; omega)
  have K' : Kp w w' := K14.newS c' fun j hj => by omega
  have hgl : g.props.length * 16 ≤ 140737488351232 ∧ g.init.length * 8 ≤ 140737488351232 ∧ g.edges.length * 24 ≤ 140737488351232 ∧ g.sets.length * 24 ≤ 140737488351232 := ⟨hv.lp, hv.li, hv.le, hv.ls⟩
  have hGv' : ∀ {W}, Kp w' W → GenV 0 W.heap.size W (.slice (some ⟨xp, 0, none⟩) g.props.length (g.props.length + 2)) (.slice (some ⟨xi, 0, none⟩) g.init.length (g.init.length + 2)) (.slice (some ⟨xe, 0, none⟩) g.edges.length (g.edges.length + 2)) (.slice (some ⟨xs, 0, none⟩) g.sets.length (g.sets.length + 1)) g := fun k => ((hG.toV (by omega) (by omega) (by omega) (by omega)).chg k (Nat.zero_le _) (by have := k.size; omega))
  refine ld (v := .agg #[(.slice (some ⟨xp, 0, none⟩) g.props.length (g.props.length + 2)), .int .i64 g.states, (.slice (some ⟨xi, 0, none⟩) g.init.length (g.init.length + 2)), (.slice (some ⟨xe, 0, none⟩) g.edges.length (g.edges.length + 2)), (.slice (some ⟨xs, 0, none⟩) g.sets.length (g.sets.length + 1))]) agree (Own.at_ (xs := [(.slice (some ⟨xp, 0, none⟩) g.props.length (g.props.length + 2)), .int .i64 g.states, (.slice (some ⟨xi, 0, none⟩) g.init.length (g.init.length + 2)), (.slice (some ⟨xe, 0, none⟩) g.edges.length (g.edges.length + 2)), (.slice (some ⟨xs, 0, none⟩) g.sets.length (g.sets.length + 1))]) (o := 0) m6 rfl) (by rfl) ?_
  refine ld (v := .agg #[(.slice (some ⟨ys, 0, none⟩) x.stem.length (x.stem.length + 2)), (.slice (some ⟨yl, 0, none⟩) x.loop.length (x.loop.length + 2))]) agree (Own.at_ (xs := [(.slice (some ⟨ys, 0, none⟩) x.stem.length (x.stem.length + 2)), (.slice (some ⟨yl, 0, none⟩) x.loop.length (x.loop.length + 2))]) (o := 0) m7' rfl) (by rfl) ?_
  refine cl callAcceptsG (acceptsG_c (hGv' (Chg.refl _ _)) (hWv' (Chg.refl _ _)) hE hP') ?_
  rintro _ w15 ⟨rfl, k15⟩
  refine ld (v := .agg #[(.slice pa g.props.length pc), .int .i64 g.states, (.slice ia g.init.length ic), (.slice ea g.edges.length ec), (.slice sa g.sets.length sc)]) agree (Own.at_ (xs := [(.slice pa g.props.length pc), .int .i64 g.states, (.slice ia g.init.length ic), (.slice ea g.edges.length ec), (.slice sa g.sets.length sc)]) (o := 0) (k15.own m2 id) rfl) (by rfl) ?_
  refine ld (v := .agg #[(.slice (some ⟨ys, 0, none⟩) x.stem.length (x.stem.length + 2)), (.slice (some ⟨yl, 0, none⟩) x.loop.length (x.loop.length + 2))]) agree (Own.at_ (xs := [(.slice (some ⟨ys, 0, none⟩) x.stem.length (x.stem.length + 2)), (.slice (some ⟨yl, 0, none⟩) x.loop.length (x.loop.length + 2))]) (o := 0) (k15.own m7' id) rfl) (by rfl) ?_
  refine cl callRAcceptsG (racceptsG_c (hgen (K'.trans k15)) (hWv' k15) hF') ?_
  rintro _ w16 ⟨rfl, k16⟩
  have q := k15.trans k16
  refine spF (fun h => h rfl) ?_
  refine spF (fun h => h rfl) ?_
  have m2 := q.own m2 id
  have m3 := q.own m3 id
  have m6 := q.own m6 id
  have m7 := q.own m7' id
  have mE := q.own mE id
  have hG := hG.chg q (fun _ _ _ h => h)
  have hWl := hWl.chgS q (fun _ _ _ h => h)
  have K16 := K'.trans q
  have z16 := q.size
  have hEl := hgl.2.2.1
  clear hWv' hGv'
  refine loop agree (σ := Nat) (fun i => [(2, pt b2 0), (3, pt b3 0), (6, pt b6 0), (7, pt b7 0), (14, .int .i64 i)]) (fun i w' => Chg (fun k => k = xe) w16 w' ∧ i ≤ g.edges.length ∧ Own w' xe 52 (((g.edges.take i).map sw ++ g.edges.drop i).flatMap Edge.cells ++ lentEM)) (fun i => g.edges.length - i) 0
    ⟨rfl, rfl, rfl, rfl, rfl, trivial⟩ ⟨Chg.refl _ _, by omega, by simpa using mE⟩ ?_
  rintro i e0 w' ⟨c', hi, mEi⟩
  have mG : Own w' b6 28 [(.slice (some ⟨xp, 0, none⟩) g.props.length (g.props.length + 2)), .int .i64 g.states, (.slice (some ⟨xi, 0, none⟩) g.init.length (g.init.length + 2)), (.slice (some ⟨xe, 0, none⟩) g.edges.length (g.edges.length + 2)), (.slice (some ⟨xs, 0, none⟩) g.sets.length (g.sets.length + 1))] := c'.own m6 (own_ne m6 mE (by decide))
  refine ld agree (Own.at_ (xs := [(.slice (some ⟨xe, 0, none⟩) g.edges.length (g.edges.length + 2))]) (o := 3) mG rfl) (by rfl) ?_
  refine sp (fun hlt => ?_) (fun hge => ?_)
  · have hi' : i < g.edges.length := by omega
    have hLl : ((g.edges.take i).map sw ++ g.edges.drop i).length = g.edges.length := tk_len _ hi
    have hLi : ((g.edges.take i).map sw ++ g.edges.drop i)[i]? = some g.edges[i] := tk_get _ hi'
    refine drawnU agree mixed 21 [0, 1, 2, 6, 7, 8, 9, 10, 11, 12, 13, 14, 15, 16, 17, 18, 19, 20, 3, 4, 5] (by kernel_rfl) (StR w' xe (sw1 ((g.edges.take i).map sw ++ g.edges.drop i) i g.edges[i])) (preStR _ _ _) (fun W => W.heap[xe]? = w'.heap[xe]?) 20 rfl ?_
    have keepG : ∀ W, StR w' xe (sw1 ((g.edges.take i).map sw ++ g.edges.drop i) i g.edges[i]) w' W → Own W b6 28 [(.slice (some ⟨xp, 0, none⟩) g.props.length (g.props.length + 2)), .int .i64 g.states, (.slice (some ⟨xi, 0, none⟩) g.init.length (g.init.length + 2)), (.slice (some ⟨xe, 0, none⟩) g.edges.length (g.edges.length + 2)), (.slice (some ⟨xs, 0, none⟩) g.sets.length (g.sets.length + 1))] := fun W h => h.chg.own mG (own_ne mG mEi (by decide))
    conv => whnf
    refine ldu (preStR _ _ _) agree rfl rfl (fun W h _ _ => Own.at_ (xs := [(.slice (some ⟨xe, 0, none⟩) g.edges.length (g.edges.length + 2))]) (o := 3) (keepG W h) rfl) (by rfl) fun _ => ?_
    conv => whnf
    refine ldu (preStR _ _ _) agree rfl rfl (fun W h _ _ => Own.at_ (xs := [(.slice (some ⟨xe, 0, none⟩) g.edges.length (g.edges.length + 2))]) (o := 3) (keepG W h) rfl) (by rfl) fun _ => ?_
    conv => whnf
    refine ne ⟨by omega, by omega⟩ ?_
    conv => whnf
    refine ldu (preStR _ _ _) agree rfl rfl (fun W h _ hU => by rw [Int.toNat_natCast]; exact edge_at (own_same mEi (hU rfl)) hLi 3 rfl) (by rfl) fun _ => ?_
    conv => whnf
    refine ldu (preStR _ _ _) agree rfl rfl (fun W h _ _ => Own.at_ (xs := [(.slice (some ⟨xe, 0, none⟩) g.edges.length (g.edges.length + 2))]) (o := 3) (keepG W h) rfl) (by rfl) fun _ => ?_
    conv => whnf
    refine ne ⟨by omega, by omega⟩ ?_
    conv => whnf
    refine ldu (preStR _ _ _) agree rfl rfl (fun W h _ hU => by rw [Int.toNat_natCast]; exact edge_at (own_same mEi (hU rfl)) hLi 2 rfl) (by rfl) fun _ => ?_
    conv => whnf
    refine ne ⟨by omega, by omega⟩ ?_
    conv => whnf
    refine stu (fun W => Own W xe 52 (sw1 ((g.edges.take i).map sw ++ g.edges.drop i) i g.edges[i])) rfl (fun W W' h hS => (hS.row h.lt).elim (fun h' => own_same h h') id) (fun W h _ hU => ?_) fun D20 hD20 => ?_
    · refine st agree (own_same mEi (hU rfl)) rfl (by rw [Int.toNat_natCast]; exact sw_fits hLl hi' (by decide)) rfl fun w2 s2 k2 m2 => ?_
      have m2 : Own w2 xe 52 (sw1 ((g.edges.take i).map sw ++ g.edges.drop i) i g.edges[i]) := by rw [Int.toNat_natCast] at m2; exact m2
      exact ⟨⟨k2, fun _ => .inr m2⟩, m2⟩
    conv => whnf
    refine ldu (preStR _ _ _) agree rfl rfl (fun W h _ _ => Own.at_ (xs := [(.slice (some ⟨xe, 0, none⟩) g.edges.length (g.edges.length + 2))]) (o := 3) (keepG W h) rfl) (by rfl) fun _ => ?_
    conv => whnf
    intro W hS hd
    have m1 := hD20 W (hd 20)
    refine ne ⟨by omega, by omega⟩ ?_
    refine st agree m1 rfl (by rw [Int.toNat_natCast, sw1_len]; exact sw_fits hLl hi' (by decide)) rfl ?_
    intro w3 s3 k3 m3
    rw [Int.toNat_natCast] at m3
    refine aw (by omega) (by omega) ?_
    refine again (i + 1) ⟨rfl, rfl, rfl, rfl, rfl, trivial⟩ ⟨(c'.trans hS.chg).trans k3, by omega, ?_⟩ (by omega)
    have m3 : Own w3 xe 52 (lay (sw1 ((g.edges.take i).map sw ++ g.edges.drop i) i g.edges[i]) (0 + i * 4 + 3) [.int .u16 g.edges[i].must]) := m3
    rw [sw_lay hLi, sw_next hi'] at m3
    exact m3
  have hin : i = g.edges.length := by omega
  subst hin
  rw [sw_done] at mEi
  -- and the automaton
  have hG2 := hG.swap (L := g.edges.map sw) (by rw [List.length_map]) (sw_wf hG.wf) c' mEi
  have hF2 : Few { g with edges := g.edges.map sw } x' := ⟨hF'.st, by show (g.edges.map sw).length ≤ 300; rw [List.length_map]; exact hF'.ed, hF'.se, hF'.pl⟩
  have z17 := c'.size
  have hWl2 := hWl.chgS c' (fun k h1 h2 => by omega)
  have K17 : Kp w w' := K16.newS c' fun j hj => by omega
  have m2 := c'.own m2 (own_ne m2 mE (by decide))
  have m3 := c'.own m3 (own_ne m3 mE (by decide))
  have m7 := c'.own m7 (own_ne m7 mE (by decide))
  have hGv2 : ∀ {W}, Kp w' W → GenV 0 W.heap.size W (.slice (some ⟨xp, 0, none⟩) g.props.length (g.props.length + 2)) (.slice (some ⟨xi, 0, none⟩) g.init.length (g.init.length + 2)) (.slice (some ⟨xe, 0, none⟩) g.edges.length (g.edges.length + 2)) (.slice (some ⟨xs, 0, none⟩) g.sets.length (g.sets.length + 1)) { g with edges := g.edges.map sw } := fun k => ((hG2.toV (by show g.props.length < _; omega) (by show g.init.length < _; omega) (by show (g.edges.map sw).length < _; rw [List.length_map]; omega) (by show g.sets.length < _; omega)).chg k (Nat.zero_le _) (by have := k.size; omega))
  have hWv2 : ∀ {W}, Kp w' W → WordV 0 W.heap.size W (.slice (some ⟨ys, 0, none⟩) x.stem.length (x.stem.length + 2)) (.slice (some ⟨yl, 0, none⟩) x.loop.length (x.loop.length + 2)) x' := fun k => hWl2.chg k (Nat.zero_le _) (by have := k.size; omega)
  refine ld (v := .agg #[(.slice (some ⟨xp, 0, none⟩) g.props.length (g.props.length + 2)), .int .i64 g.states, (.slice (some ⟨xi, 0, none⟩) g.init.length (g.init.length + 2)), (.slice (some ⟨xe, 0, none⟩) g.edges.length (g.edges.length + 2)), (.slice (some ⟨xs, 0, none⟩) g.sets.length (g.sets.length + 1))]) agree (Own.at_ (xs := [(.slice (some ⟨xp, 0, none⟩) g.props.length (g.props.length + 2)), .int .i64 g.states, (.slice (some ⟨xi, 0, none⟩) g.init.length (g.init.length + 2)), (.slice (some ⟨xe, 0, none⟩) g.edges.length (g.edges.length + 2)), (.slice (some ⟨xs, 0, none⟩) g.sets.length (g.sets.length + 1))]) (o := 0) mG rfl) (by rfl) ?_
  refine ld (v := .agg #[(.slice (some ⟨ys, 0, none⟩) x.stem.length (x.stem.length + 2)), (.slice (some ⟨yl, 0, none⟩) x.loop.length (x.loop.length + 2))]) agree (Own.at_ (xs := [(.slice (some ⟨ys, 0, none⟩) x.stem.length (x.stem.length + 2)), (.slice (some ⟨yl, 0, none⟩) x.loop.length (x.loop.length + 2))]) (o := 0) m7 rfl) (by rfl) ?_
  have hcall := acceptsG_c (hGv2 (Chg.refl _ _)) (hWv2 (Chg.refl _ _)) (by show (g.edges.map sw).length < _; rw [List.length_map]; exact hE) hP'
  refine cl callAcceptsG hcall ?_
  rintro _ w18 ⟨rfl, k18⟩
  refine ld (v := .agg #[(.slice (some ⟨xp, 0, none⟩) g.props.length (g.props.length + 2)), .int .i64 g.states, (.slice (some ⟨xi, 0, none⟩) g.init.length (g.init.length + 2)), (.slice (some ⟨xe, 0, none⟩) g.edges.length (g.edges.length + 2)), (.slice (some ⟨xs, 0, none⟩) g.sets.length (g.sets.length + 1))]) agree (Own.at_ (xs := [(.slice (some ⟨xp, 0, none⟩) g.props.length (g.props.length + 2)), .int .i64 g.states, (.slice (some ⟨xi, 0, none⟩) g.init.length (g.init.length + 2)), (.slice (some ⟨xe, 0, none⟩) g.edges.length (g.edges.length + 2)), (.slice (some ⟨xs, 0, none⟩) g.sets.length (g.sets.length + 1))]) (o := 0) (k18.own mG id) rfl) (by rfl) ?_
  refine ld (v := .agg #[(.slice (some ⟨ys, 0, none⟩) x.stem.length (x.stem.length + 2)), (.slice (some ⟨yl, 0, none⟩) x.loop.length (x.loop.length + 2))]) agree (Own.at_ (xs := [(.slice (some ⟨ys, 0, none⟩) x.stem.length (x.stem.length + 2)), (.slice (some ⟨yl, 0, none⟩) x.loop.length (x.loop.length + 2))]) (o := 0) (k18.own m7 id) rfl) (by rfl) ?_
  have hcall := racceptsG_c (hGv2 k18) (hWv2 k18) hF2
  refine cl callRAcceptsG hcall ?_
  rintro _ w19 ⟨rfl, k19⟩
  have q := k18.trans k19
  refine spF (fun h => h rfl) ?_
  refine spF (fun h => h rfl) ?_
  have m2 := q.own m2 id
  have m3 := q.own m3 id
  have K19 := K17.trans q
  have n3 := m3
  refine ld agree (Own.at_ (xs := [(.slice sa g.sets.length sc)]) (o := 4) m2 rfl) (by rfl) ?_
  refine sp (fun h0 => ?_) (fun h0 => ?_)
  · exact ⟨rfl, K19⟩
  obtain ⟨F, hFs⟩ : ∃ F, g.sets[0]? = some F := ⟨g.sets[0]'(by omega), by simp⟩
  obtain ⟨sa', sc', hsa, -, hse⟩ := id hv.sets
  obtain ⟨bs, os, hbs, hbs1, hbs2, cs, hcs, hrds, u, rfl, hFu, hFl⟩ := hse 0 F hFs
  cases hsa
  subst hbs
  have hFu0 := hFu
  obtain ⟨fa, fc, rfl, -⟩ := hFu
  have hbin : ∀ {W}, Kp w W → Bin 0 w.heap.size W (.slice pa g.props.length pc) (.slice ia g.init.length ic) (.slice ea g.edges.length ec) (.slice fa F.length fc) ⟨g.props, g.states, g.init, g.edges, F⟩ := fun k =>
    ⟨hv.props.chg k (fun _ _ _ h => h) (fun _ _ h => h), hv.init.chg k (fun _ _ _ h => h) (fun _ _ h => h), hv.edges.chg k (fun _ _ _ h => h) (fun _ _ h => h), hFu0.chg k (fun _ _ _ h => h) (fun _ _ h => h), hv.lp, hv.li, hv.le, hFl⟩
  have hFB : Few (Buchi.general ⟨g.props, g.states, g.init, g.edges, F⟩) x := ⟨hF.st, hF.ed, by simp [Buchi.general], hF.pl⟩
  have n2 : Own w19 b2 28 [(.slice pa g.props.length pc), .int .i64 g.states, (.slice ia g.init.length ic), (.slice ea g.edges.length ec), (.slice (some ⟨bs, os, none⟩) g.sets.length sc)] := m2
  refine drawnK agree mixed 14 [0, 1, 2, 3, 4, 5, 6, 7, 8, 9, 10, 11, 12, 13] (by kernel_rfl) ?_
  conv => whnf
  refine ldk agree rfl rfl (fun W h _ => Own.at_ (xs := [(.slice pa g.props.length pc)]) (o := 0) (h.own n2 id) rfl) (by rfl) fun _ => ?_
  conv => whnf
  refine ldk agree rfl rfl (fun W h _ => Own.at_ (xs := [.int .i64 g.states]) (o := 1) (h.own n2 id) rfl) (by rfl) fun _ => ?_
  conv => whnf
  refine ldk agree rfl rfl (fun W h _ => Own.at_ (xs := [(.slice ia g.init.length ic)]) (o := 2) (h.own n2 id) rfl) (by rfl) fun _ => ?_
  conv => whnf
  refine ldk agree rfl rfl (fun W h _ => Own.at_ (xs := [(.slice ea g.edges.length ec)]) (o := 3) (h.own n2 id) rfl) (by rfl) fun _ => ?_
  conv => whnf
  refine ldk agree rfl rfl (fun W h _ => Own.at_ (xs := [.slice (some ⟨bs, os, none⟩) g.sets.length sc]) (o := 4) (h.own n2 id) rfl) (by rfl) fun _ => ?_
  conv => whnf
  refine ne ⟨by omega, by omega⟩ ?_
  conv => whnf
  refine ldk agree rfl rfl (fun W h _ => (K19.trans h).range hrds id) (by rfl) fun _ => ?_
  conv => whnf
  refine alk rfl rfl fun b15 D15 hD15 => ?_
  conv => whnf
  intro W hWk hd
  obtain ⟨m15, hb15⟩ := hD15 W (hd 13)
  refine st agree m15 rfl (Nat.le_refl 5) rfl ?_
  intro w20 s20 k20 m15
  have m15 : Own w20 b15 31 [(.slice pa g.props.length pc), .int .i64 g.states, (.slice ia g.init.length ic), (.slice ea g.edges.length ec), (.slice fa F.length fc)] := m15
  have K20 : Kp w w20 := (K19.trans hWk).newS k20 fun j hj => by have := K19.size; omega
  have n3 : Own w20 b3 44 [(.slice wa1 x.stem.length wc1), (.slice wa2 x.loop.length wc2)] := k20.own (hWk.own n3 id) (by have := n3.lt; omega)
  clear hd hD15
  refine ld (v := .agg #[(.slice pa g.props.length pc), .int .i64 g.states, (.slice ia g.init.length ic), (.slice ea g.edges.length ec), (.slice fa F.length fc)]) agree (Own.at_ (xs := [(.slice pa g.props.length pc), .int .i64 g.states, (.slice ia g.init.length ic), (.slice ea g.edges.length ec), (.slice fa F.length fc)]) (o := 0) m15 rfl) (by rfl) ?_
  have hcall := lentBuchi_c (hbin K20)
  refine cl callLentBuchi hcall ?_
  rintro _ w21 ⟨k21, tp, ti, te, tf, rfl, hB⟩
  obtain ⟨vp, rfl, -⟩ := id hB.props
  obtain ⟨vi, rfl, -⟩ := id hB.init
  obtain ⟨ve, rfl, ve1, ve2, mE3⟩ := id hB.edges
  obtain ⟨vf, rfl, -⟩ := id hB.final
  refine nd fun b16 w22 e22 s22 k22 m16 => ?_
  refine st agree (cs := cellsL ti31.zero) m16 rfl (Nat.le_refl 5) rfl ?_
  intro w23 s23 k23 m16
  have m16 : Own w23 b16 31 [(.slice (some ⟨vp, 0, none⟩) g.props.length (g.props.length + 2)), .int .i64 g.states, (.slice (some ⟨vi, 0, none⟩) g.init.length (g.init.length + 2)), (.slice (some ⟨ve, 0, none⟩) g.edges.length (g.edges.length + 2)), (.slice (some ⟨vf, 0, none⟩) F.length (F.length + 2))] := m16
  have k2123 : Kp w21 w23 := k22.new e22 k23
  have k2023 := k21.trans k2123
  have K23 := K20.trans k2023
  have hB := hB.chg k2123 (fun _ _ _ h => h)
  have mE3 := k2123.own mE3 id
  have m15 := k2023.own m15 id
  have n3 := k2023.own n3 id
  refine ld (v := .agg #[(.slice wa1 x.stem.length wc1), (.slice wa2 x.loop.length wc2)]) agree (Own.at_ (xs := [(.slice wa1 x.stem.length wc1), (.slice wa2 x.loop.length wc2)]) (o := 0) n3 rfl) (by rfl) ?_
  refine cl callLentWord (lentWord_c (hwin K23)) ?_
  rintro _ w24 ⟨k24, us, ul, rfl, hW2⟩
  obtain ⟨us, rfl, -⟩ := id hW2.stem
  obtain ⟨ul, rfl, ul1, ul2, -⟩ := id hW2.loop
  refine nd fun b17 w25 e25 s25 k25 m17 => ?_
  refine st agree (cs := cellsL ti44.zero) m17 rfl (Nat.le_refl 2) rfl ?_
  intro w26 s26 k26 m17
  have m17 : Own w26 b17 44 [(.slice (some ⟨us, 0, none⟩) x.stem.length (x.stem.length + 2)), (.slice (some ⟨ul, 0, none⟩) x.loop.length (x.loop.length + 2))] := m17
  have k2426 : Kp w24 w26 := k25.new e25 k26
  have k2326 := k24.trans k2426
  have K26 := K23.trans k2326
  have hB := hB.chg k2326 (fun _ _ _ h => h)
  have hW2 := hW2.chg k2426 (fun _ _ _ h => h)
  have mE3 := k2326.own mE3 id
  have m15 := k2326.own m15 id
  have m16 := k2326.own m16 id
  have n3 := k2326.own n3 id
  have y20 := K20.size
  have y21 := k21.size
  have y23 := k2123.size
  have y24 := k24.size
  have y26 := k2426.size
  have hBv : ∀ {W}, Kp w26 W → BuchiV 0 W.heap.size W (.slice (some ⟨vp, 0, none⟩) g.props.length (g.props.length + 2)) (.slice (some ⟨vi, 0, none⟩) g.init.length (g.init.length + 2)) (.slice (some ⟨ve, 0, none⟩) g.edges.length (g.edges.length + 2)) (.slice (some ⟨vf, 0, none⟩) F.length (F.length + 2)) ⟨g.props, g.states, g.init, g.edges, F⟩ := fun k => ((hB.chg k fun _ _ _ h => h).row (hbin (Chg.refl _ _))).gen.chg (Chg.refl _ _) (Nat.zero_le _) (by have := k.size; omega)
  have hVv : ∀ {W}, Kp w26 W → WordV 0 W.heap.size W (.slice (some ⟨us, 0, none⟩) x.stem.length (x.stem.length + 2)) (.slice (some ⟨ul, 0, none⟩) x.loop.length (x.loop.length + 2)) x := fun k => ((hW2.chg k fun _ _ _ h => h).row hw.ls hw.ll).word.chg (Chg.refl _ _) (Nat.zero_le _) (by have := k.size; omega)
  refine ld (v := .agg #[(.slice (some ⟨vp, 0, none⟩) g.props.length (g.props.length + 2)), .int .i64 g.states, (.slice (some ⟨vi, 0, none⟩) g.init.length (g.init.length + 2)), (.slice (some ⟨ve, 0, none⟩) g.edges.length (g.edges.length + 2)), (.slice (some ⟨vf, 0, none⟩) F.length (F.length + 2))]) agree (Own.at_ (xs := [(.slice (some ⟨vp, 0, none⟩) g.props.length (g.props.length + 2)), .int .i64 g.states, (.slice (some ⟨vi, 0, none⟩) g.init.length (g.init.length + 2)), (.slice (some ⟨ve, 0, none⟩) g.edges.length (g.edges.length + 2)), (.slice (some ⟨vf, 0, none⟩) F.length (F.length + 2))]) (o := 0) m16 rfl) (by rfl) ?_
  refine ld (v := .agg #[(.slice (some ⟨us, 0, none⟩) x.stem.length (x.stem.length + 2)), (.slice (some ⟨ul, 0, none⟩) x.loop.length (x.loop.length + 2))]) agree (Own.at_ (xs := [(.slice (some ⟨us, 0, none⟩) x.stem.length (x.stem.length + 2)), (.slice (some ⟨ul, 0, none⟩) x.loop.length (x.loop.length + 2))]) (o := 0) m17 rfl) (by rfl) ?_
  have hcall := acceptsB_c (hBv (Chg.refl _ _)) (hVv (Chg.refl _ _)) hE hP
  refine cl callAcceptsB hcall ?_
  rintro _ w27 ⟨rfl, k27⟩
  refine ld (v := .agg #[(.slice pa g.props.length pc), .int .i64 g.states, (.slice ia g.init.length ic), (.slice ea g.edges.length ec), (.slice fa F.length fc)]) agree (Own.at_ (xs := [(.slice pa g.props.length pc), .int .i64 g.states, (.slice ia g.init.length ic), (.slice ea g.edges.length ec), (.slice fa F.length fc)]) (o := 0) (k27.own m15 id) rfl) (by rfl) ?_
  refine ld (v := .agg #[(.slice wa1 x.stem.length wc1), (.slice wa2 x.loop.length wc2)]) agree (Own.at_ (xs := [(.slice wa1 x.stem.length wc1), (.slice wa2 x.loop.length wc2)]) (o := 0) (k27.own n3 id) rfl) (by rfl) ?_
  have hcall := racceptsB_c ((hbin (K26.trans k27)).gen.chg (Chg.refl _ _) (Nat.le_refl _) (K26.trans k27).size) (hwrd (K26.trans k27)) hFB
  refine cl callRAcceptsB hcall ?_
  rintro _ w28 ⟨rfl, k28⟩
  have q := k27.trans k28
  refine ld (v := .agg #[(.slice (some ⟨vp, 0, none⟩) g.props.length (g.props.length + 2)), .int .i64 g.states, (.slice (some ⟨vi, 0, none⟩) g.init.length (g.init.length + 2)), (.slice (some ⟨ve, 0, none⟩) g.edges.length (g.edges.length + 2)), (.slice (some ⟨vf, 0, none⟩) F.length (F.length + 2))]) agree (Own.at_ (xs := [(.slice (some ⟨vp, 0, none⟩) g.props.length (g.props.length + 2)), .int .i64 g.states, (.slice (some ⟨vi, 0, none⟩) g.init.length (g.init.length + 2)), (.slice (some ⟨ve, 0, none⟩) g.edges.length (g.edges.length + 2)), (.slice (some ⟨vf, 0, none⟩) F.length (F.length + 2))]) (o := 0) (q.own m16 id) rfl) (by rfl) ?_
  refine ld (v := .agg #[(.slice pa g.props.length pc), .int .i64 g.states, (.slice ia g.init.length ic), (.slice ea g.edges.length ec), (.slice fa F.length fc)]) agree (Own.at_ (xs := [(.slice pa g.props.length pc), .int .i64 g.states, (.slice ia g.init.length ic), (.slice ea g.edges.length ec), (.slice fa F.length fc)]) (o := 0) (q.own m15 id) rfl) (by rfl) ?_
  have hcall := wholeBuchi_c (hB.chg q fun _ _ _ h => h) (hbin (K26.trans q))
  refine cl callWholeBuchi hcall ?_
  rintro _ w29 ⟨rfl, k29⟩
  have q := q.trans k29
  refine ld (v := .agg #[(.slice (some ⟨us, 0, none⟩) x.stem.length (x.stem.length + 2)), (.slice (some ⟨ul, 0, none⟩) x.loop.length (x.loop.length + 2))]) agree (Own.at_ (xs := [(.slice (some ⟨us, 0, none⟩) x.stem.length (x.stem.length + 2)), (.slice (some ⟨ul, 0, none⟩) x.loop.length (x.loop.length + 2))]) (o := 0) (q.own m17 id) rfl) (by rfl) ?_
  refine ld (v := .agg #[(.slice wa1 x.stem.length wc1), (.slice wa2 x.loop.length wc2)]) agree (Own.at_ (xs := [(.slice wa1 x.stem.length wc1), (.slice wa2 x.loop.length wc2)]) (o := 0) (q.own n3 id) rfl) (by rfl) ?_
  refine cl callWholeWord (wholeWord_c (hW2.chg q fun _ _ _ h => h) (hwin (K26.trans q))) ?_
  rintro _ w30 ⟨rfl, k30⟩
  have q := q.trans k30
  refine spF (fun h => h rfl) ?_
  refine spF (fun h => h rfl) ?_
  have m16 := q.own m16 id
  have m17 := q.own m17 id
  have mE3 := q.own mE3 id
  have hB := hB.chg q (fun _ _ _ h => h)
  have hW2 := hW2.chg q (fun _ _ _ h => h)
  have K30 := K26.trans q
  have y30 := q.size
  refine loop agree (σ := Nat) (fun i => [(16, pt b16 0), (17, pt b17 0), (19, .int .i64 i)]) (fun i w' => Chg (fun k => k = ve) w30 w' ∧ i ≤ g.edges.length ∧ Own w' ve 52 (((g.edges.take i).map sw ++ g.edges.drop i).flatMap Edge.cells ++ lentEM)) (fun i => g.edges.length - i) 0
    ⟨rfl, rfl, rfl, trivial⟩ ⟨Chg.refl _ _, by omega, by simpa using mE3⟩ ?_
  rintro i e0 w' ⟨c', hi, mEi⟩
  have mG : Own w' b16 31 [(.slice (some ⟨vp, 0, none⟩) g.props.length (g.props.length + 2)), .int .i64 g.states, (.slice (some ⟨vi, 0, none⟩) g.init.length (g.init.length + 2)), (.slice (some ⟨ve, 0, none⟩) g.edges.length (g.edges.length + 2)), (.slice (some ⟨vf, 0, none⟩) F.length (F.length + 2))] := c'.own m16 (own_ne m16 mE3 (by decide))
  refine ld agree (Own.at_ (xs := [(.slice (some ⟨ve, 0, none⟩) g.edges.length (g.edges.length + 2))]) (o := 3) mG rfl) (by rfl) ?_
  refine sp (fun hlt => ?_) (fun hge => ?_)
  · have hi' : i < g.edges.length := by omega
    have hLl : ((g.edges.take i).map sw ++ g.edges.drop i).length = g.edges.length := tk_len _ hi
    have hLi : ((g.edges.take i).map sw ++ g.edges.drop i)[i]? = some g.edges[i] := tk_get _ hi'
    refine drawnU agree mixed 21 [0, 1, 2, 6, 7, 8, 9, 10, 11, 12, 13, 14, 15, 16, 17, 18, 19, 20, 3, 4, 5] (by kernel_rfl) (StR w' ve (sw1 ((g.edges.take i).map sw ++ g.edges.drop i) i g.edges[i])) (preStR _ _ _) (fun W => W.heap[ve]? = w'.heap[ve]?) 20 rfl ?_
    have keepG : ∀ W, StR w' ve (sw1 ((g.edges.take i).map sw ++ g.edges.drop i) i g.edges[i]) w' W → Own W b16 31 [(.slice (some ⟨vp, 0, none⟩) g.props.length (g.props.length + 2)), .int .i64 g.states, (.slice (some ⟨vi, 0, none⟩) g.init.length (g.init.length + 2)), (.slice (some ⟨ve, 0, none⟩) g.edges.length (g.edges.length + 2)), (.slice (some ⟨vf, 0, none⟩) F.length (F.length + 2))] := fun W h => h.chg.own mG (own_ne mG mEi (by decide))
    conv => whnf
    refine ldu (preStR _ _ _) agree rfl rfl (fun W h _ _ => Own.at_ (xs := [(.slice (some ⟨ve, 0, none⟩) g.edges.length (g.edges.length + 2))]) (o := 3) (keepG W h) rfl) (by rfl) fun _ => ?_
    conv => whnf
    refine ldu (preStR _ _ _) agree rfl rfl (fun W h _ _ => Own.at_ (xs := [(.slice (some ⟨ve, 0, none⟩) g.edges.length (g.edges.length + 2))]) (o := 3) (keepG W h) rfl) (by rfl) fun _ => ?_
    conv => whnf
    refine ne ⟨by omega, by omega⟩ ?_
    conv => whnf
    refine ldu (preStR _ _ _) agree rfl rfl (fun W h _ hU => by rw [Int.toNat_natCast]; exact edge_at (own_same mEi (hU rfl)) hLi 3 rfl) (by rfl) fun _ => ?_
    conv => whnf
    refine ldu (preStR _ _ _) agree rfl rfl (fun W h _ _ => Own.at_ (xs := [(.slice (some ⟨ve, 0, none⟩) g.edges.length (g.edges.length + 2))]) (o := 3) (keepG W h) rfl) (by rfl) fun _ => ?_
    conv => whnf
    refine ne ⟨by omega, by omega⟩ ?_
    conv => whnf
    refine ldu (preStR _ _ _) agree rfl rfl (fun W h _ hU => by rw [Int.toNat_natCast]; exact edge_at (own_same mEi (hU rfl)) hLi 2 rfl) (by rfl) fun _ => ?_
    conv => whnf
    refine ne ⟨by omega, by omega⟩ ?_
    conv => whnf
    refine stu (fun W => Own W ve 52 (sw1 ((g.edges.take i).map sw ++ g.edges.drop i) i g.edges[i])) rfl (fun W W' h hS => (hS.row h.lt).elim (fun h' => own_same h h') id) (fun W h _ hU => ?_) fun D20 hD20 => ?_
    · refine st agree (own_same mEi (hU rfl)) rfl (by rw [Int.toNat_natCast]; exact sw_fits hLl hi' (by decide)) rfl fun w2 s2 k2 m2 => ?_
      have m2 : Own w2 ve 52 (sw1 ((g.edges.take i).map sw ++ g.edges.drop i) i g.edges[i]) := by rw [Int.toNat_natCast] at m2; exact m2
      exact ⟨⟨k2, fun _ => .inr m2⟩, m2⟩
    conv => whnf
    refine ldu (preStR _ _ _) agree rfl rfl (fun W h _ _ => Own.at_ (xs := [(.slice (some ⟨ve, 0, none⟩) g.edges.length (g.edges.length + 2))]) (o := 3) (keepG W h) rfl) (by rfl) fun _ => ?_
    conv => whnf
    intro W hS hd
    have m1 := hD20 W (hd 20)
    refine ne ⟨by omega, by omega⟩ ?_
    refine st agree m1 rfl (by rw [Int.toNat_natCast, sw1_len]; exact sw_fits hLl hi' (by decide)) rfl ?_
    intro w3 s3 k3 m3
    rw [Int.toNat_natCast] at m3
    refine aw (by omega) (by omega) ?_
    refine again (i + 1) ⟨rfl, rfl, rfl, trivial⟩ ⟨(c'.trans hS.chg).trans k3, by omega, ?_⟩ (by omega)
    have m3 : Own w3 ve 52 (lay (sw1 ((g.edges.take i).map sw ++ g.edges.drop i) i g.edges[i]) (0 + i * 4 + 3) [.int .u16 g.edges[i].must]) := m3
    rw [sw_lay hLi, sw_next hi'] at m3
    exact m3
  have hin : i = g.edges.length := by omega
  subst hin
  rw [sw_done] at mEi
  have hB2 := hB.swap (L := g.edges.map sw) (by rw [List.length_map]) (sw_wf hB.wf) c' mEi
  have hFB2 : Few (Buchi.general ⟨g.props, g.states, g.init, g.edges.map sw, F⟩) x := ⟨hF.st, by show (g.edges.map sw).length ≤ 300; rw [List.length_map]; exact hF.ed, by simp [Buchi.general], hF.pl⟩
  have y31 := c'.size
  have m17 := c'.own m17 (own_ne m17 mE3 (by decide))
  have hV2 : WordV w23.heap.size w24.heap.size _ (.slice (some ⟨us, 0, none⟩) x.stem.length (x.stem.length + 2)) (.slice (some ⟨ul, 0, none⟩) x.loop.length (x.loop.length + 2)) x := (hW2.row hw.ls hw.ll).word.chgS c' (fun k h1 h2 => by omega)
  have K31 := K30.newS c' fun j hj => by omega
  have hBv2 : ∀ {W}, Kp _ W → BuchiV 0 W.heap.size W (.slice (some ⟨vp, 0, none⟩) g.props.length (g.props.length + 2)) (.slice (some ⟨vi, 0, none⟩) g.init.length (g.init.length + 2)) (.slice (some ⟨ve, 0, none⟩) g.edges.length (g.edges.length + 2)) (.slice (some ⟨vf, 0, none⟩) F.length (F.length + 2)) ⟨g.props, g.states, g.init, g.edges.map sw, F⟩ := fun k => ((hB2.toV (by show g.props.length < _; omega) (by show g.init.length < _; omega) (by show (g.edges.map sw).length < _; rw [List.length_map]; omega) (by show F.length < _; omega)).chg k (Nat.zero_le _) (by have := k.size; omega))
  refine ld (v := .agg #[(.slice (some ⟨vp, 0, none⟩) g.props.length (g.props.length + 2)), .int .i64 g.states, (.slice (some ⟨vi, 0, none⟩) g.init.length (g.init.length + 2)), (.slice (some ⟨ve, 0, none⟩) g.edges.length (g.edges.length + 2)), (.slice (some ⟨vf, 0, none⟩) F.length (F.length + 2))]) agree (Own.at_ (xs := [(.slice (some ⟨vp, 0, none⟩) g.props.length (g.props.length + 2)), .int .i64 g.states, (.slice (some ⟨vi, 0, none⟩) g.init.length (g.init.length + 2)), (.slice (some ⟨ve, 0, none⟩) g.edges.length (g.edges.length + 2)), (.slice (some ⟨vf, 0, none⟩) F.length (F.length + 2))]) (o := 0) mG rfl) (by rfl) ?_
  refine ld (v := .agg #[(.slice (some ⟨us, 0, none⟩) x.stem.length (x.stem.length + 2)), (.slice (some ⟨ul, 0, none⟩) x.loop.length (x.loop.length + 2))]) agree (Own.at_ (xs := [(.slice (some ⟨us, 0, none⟩) x.stem.length (x.stem.length + 2)), (.slice (some ⟨ul, 0, none⟩) x.loop.length (x.loop.length + 2))]) (o := 0) m17 rfl) (by rfl) ?_
  have hcall := acceptsB_c (hBv2 (Chg.refl _ _)) (hV2.chg (Chg.refl _ _) (Nat.zero_le _) (by omega)) (by show (g.edges.map sw).length < _; rw [List.length_map]; exact hE) hP
  refine cl callAcceptsB hcall ?_
  rintro _ w32 ⟨rfl, k32⟩
  refine ld (v := .agg #[(.slice (some ⟨vp, 0, none⟩) g.props.length (g.props.length + 2)), .int .i64 g.states, (.slice (some ⟨vi, 0, none⟩) g.init.length (g.init.length + 2)), (.slice (some ⟨ve, 0, none⟩) g.edges.length (g.edges.length + 2)), (.slice (some ⟨vf, 0, none⟩) F.length (F.length + 2))]) agree (Own.at_ (xs := [(.slice (some ⟨vp, 0, none⟩) g.props.length (g.props.length + 2)), .int .i64 g.states, (.slice (some ⟨vi, 0, none⟩) g.init.length (g.init.length + 2)), (.slice (some ⟨ve, 0, none⟩) g.edges.length (g.edges.length + 2)), (.slice (some ⟨vf, 0, none⟩) F.length (F.length + 2))]) (o := 0) (k32.own mG id) rfl) (by rfl) ?_
  refine ld (v := .agg #[(.slice (some ⟨us, 0, none⟩) x.stem.length (x.stem.length + 2)), (.slice (some ⟨ul, 0, none⟩) x.loop.length (x.loop.length + 2))]) agree (Own.at_ (xs := [(.slice (some ⟨us, 0, none⟩) x.stem.length (x.stem.length + 2)), (.slice (some ⟨ul, 0, none⟩) x.loop.length (x.loop.length + 2))]) (o := 0) (k32.own m17 id) rfl) (by rfl) ?_
  have y32 := k32.size
  have hcall := racceptsB_c (hBv2 k32) (hV2.chg k32 (Nat.zero_le _) (by omega)) hFB2
  refine cl callRAcceptsB hcall ?_
  rintro _ w33 ⟨rfl, k33⟩
  refine spT rfl ?_
  refine spT rfl ?_
  exact ⟨rfl, K31.trans (k32.trans k33)⟩
end Go.Au
