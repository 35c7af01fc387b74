/- Own text of this workplace: a part of the proofs of this place's statements. -/
import Derived.Test.YtjibhchnhkjgkaaB30
set_option linter.unusedVariables false
set_option linter.unusedSimpArgs false
set_option linter.unusedSectionVars false
namespace Go.Au
open Go Go.RowKit

theorem few_le {g : General} {x : Word} (h : Few g x) : x.places < 1048576 := by have := h.places; omega
theorem acc_eq {g : General} {x : Word} : acceptsS g x = true ↔ AccP g x := by unfold acceptsS; exact @decide_eq_true_iff _ (Classical.propDecidable _)
theorem acc_ne {g : General} {x : Word} (h : ¬ AccP g x) : acceptsS g x = false := by
  cases hb : acceptsS g x with
  | false => rfl
  | true => exact absurd (acc_eq.1 hb) h

theorem callRAcceptsG : callable Proofs.Try.prog 25 = true := by kernel_rfl
theorem racceptsG_c {w : World} {pv iv ev sv stv lov : Value} {g : General} {x : Word} (hv : GenV 0 w.heap.size w pv iv ev sv g) (hw : WordV 0 w.heap.size w stv lov x) (hF : Few g x) :
    Calls Proofs.Try.prog 25 [.agg #[pv, .int .i64 g.states, iv, ev, sv], .agg #[stv, lov]].toArray w (Ret fun v w' => v = .tuple #[.bool (accS g x).1, .int .i64 (accS g x).2] ∧ Kp w w') := by
  have ls := hw.ls
  have ll := hw.ll
  have hpl := hF.places
  have hst := hF.st
  obtain ⟨pa, pc, hpv, -⟩ := id hv.props
  subst hpv
  obtain ⟨ia, ic, rfl, -, hinit⟩ := id hv.init
  obtain ⟨wa1, wc1, rfl, -⟩ := id hw.stem
  obtain ⟨wa2, wc2, rfl, -⟩ := id hw.loop
  refine call agree Proofs.Try.func25 rfl Proofs.Try.ntmps25 (by kernel_rfl) ?_
  refine nd fun p2 w1 e1 s1 k1 m1 => ?_
  have m2 : Own w1 p2 28 [.slice pa g.props.length pc, .int .i64 g.states, .slice ia g.init.length ic, ev, sv] := m1
  refine nd fun p3 w2 e2 s2 k2 m3 => ?_
  have m3 : Own w2 p3 44 [.slice wa1 x.stem.length wc1, .slice wa2 x.loop.length wc2] := m3
  have m2 := k2.own m2 id
  have k12 := k1.trans k2
  refine ld agree (v := .agg #[.slice pa g.props.length pc, .int .i64 g.states, .slice ia g.init.length ic, ev, sv]) (Own.at_ (xs := [.slice pa g.props.length pc, .int .i64 g.states, .slice ia g.init.length ic, ev, sv]) (o := 0) m2 rfl) (by rfl) ?_
  have hchk := rcheck_c (hv.chg k12 (Nat.le_refl _) (Nat.le_refl _))
  refine cl callRCheckG hchk ?_
  rintro _ w3 ⟨rfl, k3⟩
  cases hc : checkS g with
  | false =>
    refine spT (by decide) ?_
    exact ⟨by simp [accS, hc]; rfl, k12.trans k3⟩
  | true =>
    refine spF (by decide) ?_
    have m3' := k3.own m3 id
    have m2' := k3.own m2 id
    refine ld agree (v := .agg #[.slice wa1 x.stem.length wc1, .slice wa2 x.loop.length wc2]) (Own.at_ (xs := [.slice wa1 x.stem.length wc1, .slice wa2 x.loop.length wc2]) (o := 0) m3' rfl) (by rfl) ?_
    refine ld agree (Own.at_ (xs := [.slice pa g.props.length pc]) (o := 0) m2' rfl) (by rfl) ?_
    have hwc := rwcheck_c (n := g.props.length) (hw.chg (k12.trans k3) (Nat.le_refl _) (Nat.le_refl _)) (check_len hc)
    refine cl callRWCheck hwc ?_
    rintro _ w4 ⟨rfl, k4⟩
    have k14 := k12.trans (k3.trans k4)
    cases hk : wordOk x g.props.length with
    | false =>
      refine spT (by decide) ?_
      exact ⟨by simp [accS, hc, hk]; rfl, k14⟩
    | true =>
      refine spF (by decide) ?_
      have hg := Good.of hc
      have hx := wordOk_loop hk
      have h0 := hg.s0
      obtain ⟨N, hN⟩ : ∃ N : Nat, g.states = N := ⟨g.states.toNat, by omega⟩
      have hNn : N * x.places ≤ 60 * 30 := Nat.mul_le_mul (by omega) hpl
      have hacc := accP_iff hg hx hN
      refine ld agree (v := .agg #[.slice pa g.props.length pc, .int .i64 g.states, .slice ia g.init.length ic, ev, sv]) (Own.at_ (xs := [.slice pa g.props.length pc, .int .i64 g.states, .slice ia g.init.length ic, ev, sv]) (o := 0) (k4.own m2' id) rfl) (by rfl) ?_
      refine ld agree (v := .agg #[.slice wa1 x.stem.length wc1, .slice wa2 x.loop.length wc2]) (Own.at_ (xs := [.slice wa1 x.stem.length wc1, .slice wa2 x.loop.length wc2]) (o := 0) (k4.own m3' id) rfl) (by rfl) ?_
      refine cl callRuns (runs_c (hv.chg k14 (Nat.le_refl _) k14.size) (hw.chg k14 (Nat.le_refl _) k14.size) hg hx hF hN) ?_
      rintro _ w5 ⟨k5, b, zl, rfl, mz, hzl, hz⟩
      have k15 := k14.trans k5
      have n2 := k5.own (k4.own m2' id) id
      have n3 := k5.own (k4.own m3' id) id
      have hli := hv.li
      refine loop agree (σ := Nat) (fun i => [(2, pt p2 0), (3, pt p3 0), (6, .slice (some ⟨b, 0, none⟩) (N * x.places) (N * x.places)), (7, .int .i64 i)])
        (fun i w' => Kp w5 w' ∧ i ≤ g.init.length ∧ ∀ s ∈ g.init.take i, ¬ gT zl (s.toNat * x.places)) (fun i => g.init.length - i) 0
        ⟨rfl, rfl, rfl, rfl, trivial⟩ ⟨Chg.refl _ _, by omega, by simp⟩ ?_
      rintro i e0 w6 ⟨k6, hi, hno⟩
      refine ld agree (Own.at_ (xs := [.slice ia g.init.length ic]) (o := 2) (k6.own n2 id) rfl) (by rfl) ?_
      refine sp (fun hlt => ?_) (fun hge => ?_)
      · have hi' : i < g.init.length := by omega
        obtain ⟨bi, oi, rfl, -, -, cs, hcs, hrd, rfl⟩ := hinit i g.init[i] (by simp)
        have hir := hg.init g.init[i] (by simp)
        obtain ⟨s, hs⟩ : ∃ s : Nat, g.init[i] = s := ⟨g.init[i].toNat, by omega⟩
        have hidx : s * x.places + 0 < N * x.places := idx_lt (by omega) (places_pos hx).1
        have hil : s * x.places < zl.length := by omega
        refine drawnK agree mixed 11 [6, 7, 0, 1, 2, 3, 4, 5, 8, 9, 10] (by kernel_rfl) ?_
        conv => whnf
        refine ldk (v := .agg #[.slice wa1 x.stem.length wc1, .slice wa2 x.loop.length wc2]) agree rfl rfl (fun W h _ => Own.at_ (xs := [.slice wa1 x.stem.length wc1, .slice wa2 x.loop.length wc2]) (o := 0) ((k6.trans h).own n3 id) rfl) (by rfl) fun _ => ?_
        conv => whnf
        refine callk (v := .int .i64 (x.places : Nat)) rfl rfl rfl callRPlaces (fun W h _ => rplaces_c wa1 wa2 wc1 wc2 x ls ll) fun _ => ?_
        conv => whnf
        refine ldk agree rfl rfl (fun W h _ => Own.at_ (xs := [.slice (some ⟨bi, oi, none⟩) g.init.length ic]) (o := 2) ((k6.trans h).own n2 id) rfl) (by rfl) fun _ => ?_
        conv => whnf
        refine ne ⟨by omega, hlt⟩ ?_
        conv => whnf
        refine ldk agree rfl rfl (fun W h _ => (k15.trans (k6.trans h)).range hrd id) (by rfl) fun _ => ?_
        conv => whnf
        refine arE (z' := ((s * x.places : Nat) : Int)) (by rw [hs, ← Int.natCast_mul]; exact wrap64 (by omega) (by omega)) ?_
        conv => whnf
        refine ne ⟨by omega, by omega⟩ ?_
        conv => whnf
        refine ldk (v := .bool zl[s * x.places]) agree rfl rfl (fun W h _ => Own.one ((k6.trans h).own mz id) (getB hil) (by rw [Int.toNat_natCast]; show 0 + _ * 1 = _; omega)) (by rfl) fun _ => ?_
        conv => whnf
        cases hb : zl[s * x.places] with
        | true =>
          intro W h _
          refine ⟨?_, k15.trans (k6.trans h)⟩
          have hA : AccP g x := hacc.1 ⟨g.init[i], by simp, (hz _).1 (by rw [hs, Int.toNat_natCast, gT_get hil, hb])⟩
          simp [accS, hc, hk, acc_eq.2 hA]; rfl
        | false =>
          intro W h _
          refine aw (by omega) (by omega) ?_
          refine again (i + 1) ⟨rfl, rfl, rfl, rfl, trivial⟩ ⟨k6.trans h, by omega, fun s' hs' => ?_⟩ (by omega)
          rw [List.take_succ_eq_append_getElem hi'] at hs'
          rcases List.mem_append.1 hs' with h1 | h1
          · exact hno s' h1
          · simp at h1
            rw [h1, hs, Int.toNat_natCast, gT_get hil, hb]; simp
      · have hall : g.init.take i = g.init := List.take_of_length_le (by omega)
        rw [hall] at hno
        have hA : ¬ AccP g x := fun h => by
          obtain ⟨s, hs, hZ⟩ := hacc.2 h
          exact hno s hs ((hz _).2 hZ)
        exact ⟨by simp [accS, hc, hk, acc_ne hA]; rfl, k15.trans k6⟩

theorem callRAcceptsB : callable Proofs.Try.prog 27 = true := by kernel_rfl
theorem racceptsB_c {w : World} {pv iv ev fv stv lov : Value} {g : Buchi} {x : Word} (hv : BuchiV 0 w.heap.size w pv iv ev fv g) (hw : WordV 0 w.heap.size w stv lov x) (hF : Few g.general x) :
    Calls Proofs.Try.prog 27 [.agg #[pv, .int .i64 g.states, iv, ev, fv], .agg #[stv, lov]].toArray w (Ret fun v w' => v = .tuple #[.bool (accS g.general x).1, .int .i64 (accS g.general x).2] ∧ Kp w w') := by
  obtain ⟨a1, c1, hh1, -⟩ := id hv.props
  obtain ⟨a2, c2, hh2, -⟩ := id hv.init
  obtain ⟨a3, c3, hh3, -⟩ := id hv.edges
  obtain ⟨a4, c4, hh4, -⟩ := id hv.final
  subst hh1 hh2 hh3 hh4
  refine call agree Proofs.Try.func27 rfl Proofs.Try.ntmps27 (by kernel_rfl) ?_
  refine nd fun p2 w1 e1 s1 k1 m1 => ?_
  have m2 : Own w1 p2 31 [.slice a1 g.props.length c1, .int .i64 g.states, .slice a2 g.init.length c2, .slice a3 g.edges.length c3, .slice a4 g.final.length c4] := m1
  refine nd fun p3 w2 e2 s2 k2 m3 => ?_
  have m3 : Own w2 p3 44 [stv, lov] := m3
  have m2 := k2.own m2 id
  have k12 := k1.trans k2
  refine drawnK agree mixed 8 [0, 1, 2, 3, 4, 5, 6, 7] (by kernel_rfl) ?_
  conv => whnf
  refine ldk (v := .agg #[.slice a1 g.props.length c1, .int .i64 g.states, .slice a2 g.init.length c2, .slice a3 g.edges.length c3, .slice a4 g.final.length c4]) agree rfl rfl (fun W h _ => Own.at_ (xs := [.slice a1 g.props.length c1, .int .i64 g.states, .slice a2 g.init.length c2, .slice a3 g.edges.length c3, .slice a4 g.final.length c4]) (o := 0) (h.own m2 id) rfl) (by rfl) fun _ => ?_
  conv => whnf
  refine callf (fun q : Nat => .agg #[.slice a1 g.props.length c1, .int .i64 g.states, .slice a2 g.init.length c2, .slice a3 g.edges.length c3, .slice (some ⟨q, 0, none⟩) 1 1]) (fun q W => W.heap[q]? = some (.cells [.slice a4 g.final.length c4].toArray 24 (0, 0))) rfl rfl rfl (fun q W W' h k => k.heap h id) callRGeneral (fun W h _ => (rgeneral_c W a1 a2 a3 a4 _ c1 _ c2 _ c3 _ c4 g.states).mono fun en W' hr => ?_) fun q D hD => ?_
  · cases en with
    | returned v =>
      obtain ⟨k, q, h1, h2, h3, h4⟩ := hr
      exact ⟨k, q, h4, h3⟩
    | _ => exact hr.elim
  conv => whnf
  refine ldk (v := .agg #[stv, lov]) agree rfl rfl (fun W h _ => Own.at_ (xs := [stv, lov]) (o := 0) (h.own m3 id) rfl) (by rfl) fun _ => ?_
  conv => whnf
  refine callk (v := .tuple #[.bool (accS g.general x).1, .int .i64 (accS g.general x).2]) rfl rfl rfl callRAcceptsG (fun W h h2 => by
    have hq := hD W (h2 1 (by kernel_rfl))
    have hg := (hv.chg (k12.trans h) (Nat.le_refl _) (k12.trans h).size).general hq
    have hlt := lt_of_heap hq
    have hgg := hg.chg (Chg.refl _ W) (Nat.le_refl _) (show max W.heap.size (q + 1) ≤ W.heap.size by omega)
    exact racceptsG_c hgg (hw.chg (k12.trans h) (Nat.le_refl _) (k12.trans h).size) hF) fun _ => ?_
  conv => whnf
  intro W h _
  exact ⟨rfl, k12.trans h⟩

/-! ### words that are lent -/
structure Win (lo hi : Nat) (w : World) (s l : Value) (x : Word) : Prop where
  stem : Letters lo hi w s x.stem
  loop : Letters lo hi w l x.loop
  ls : x.stem.length * 2 ≤ 140737488351232
  ll : x.loop.length * 2 ≤ 140737488351232
structure Wlent (lo hi : Nat) (w : World) (s l : Value) (x : Word) : Prop where
  stem : LentLetters lo hi w s x.stem
  loop : LentLetters lo hi w l x.loop
  ws : ∀ c ∈ x.stem, Let16 c
  wl : ∀ c ∈ x.loop, Let16 c
  sep : s.ownBlock ≠ l.ownBlock
theorem let_all {lo hi : Nat} {w : World} {v : Value} {xs : List Int} (h : Letters lo hi w v xs) : ∀ c ∈ xs, Let16 c := fun c hc => by
  obtain ⟨a, k, -, -, hh⟩ := h
  obtain ⟨j, hj, rfl⟩ := List.getElem_of_mem hc
  obtain ⟨b, o, -, -, -, cs, -, -, -, hw⟩ := hh j xs[j] (by simp)
  exact hw
theorem let_row {lo hi : Nat} {w : World} {v : Value} {xs : List Int} (h : Letters lo hi w v xs) : RowE (fun _ cs x => cs = fU x) 1 lo hi w v xs := h.mono (fun _ _ h => h.1) (Nat.le_refl _) (Nat.le_refl _)
theorem Win.chg {S : Nat → Prop} {lo hi : Nat} {w w' : World} {s l : Value} {x : Word} (h : Win lo hi w s l x) (hc : Chg S w w') (hs : ∀ k, lo ≤ k → k < hi → ¬ S k) : Win lo hi w' s l x :=
  ⟨h.stem.chg hc hs (fun _ _ h => h), h.loop.chg hc hs (fun _ _ h => h), h.ls, h.ll⟩
theorem Win.word {lo hi : Nat} {w : World} {s l : Value} {x : Word} (h : Win lo hi w s l x) : WordV lo hi w s l x := ⟨h.stem, h.loop, by have := h.ls; omega, by have := h.ll; omega⟩
theorem Wlent.chg {S : Nat → Prop} {lo hi : Nat} {w w' : World} {s l : Value} {x : Word} (h : Wlent lo hi w s l x) (hc : Chg S w w') (hs : ∀ k, lo ≤ k → k < hi → ¬ S k) : Wlent lo hi w' s l x := ⟨h.stem.chg hc hs, h.loop.chg hc hs, h.ws, h.wl, h.sep⟩
theorem Wlent.mono {lo hi lo' hi' : Nat} {w : World} {s l : Value} {x : Word} (h : Wlent lo hi w s l x) (h1 : lo' ≤ lo) (h2 : hi ≤ hi') : Wlent lo' hi' w s l x := ⟨h.stem.mono h1 h2, h.loop.mono h1 h2, h.ws, h.wl, h.sep⟩
theorem Wlent.row {lo hi : Nat} {w : World} {s l : Value} {x : Word} (h : Wlent lo hi w s l x) (hs : x.stem.length * 2 ≤ 140737488351232) (hl : x.loop.length * 2 ≤ 140737488351232) : Win lo hi w s l x :=
  ⟨(h.stem.row (fun _ => rfl)).and h.ws, (h.loop.row (fun _ => rfl)).and h.wl, hs, hl⟩

theorem callLentWord : callable Proofs.Try.prog 22 = true := by kernel_rfl
theorem lentWord_c {w : World} {lo hi : Nat} {sv lv : Value} {x : Word} (hv : Win lo hi w sv lv x) :
    Calls Proofs.Try.prog 22 [.agg #[sv, lv]].toArray w (Ret fun r w' => Kp w w' ∧ ∃ s l, r = .agg #[s, l] ∧ Wlent w.heap.size w'.heap.size w' s l x) := by
  refine call agree Proofs.Try.func22 rfl Proofs.Try.ntmps22 (by kernel_rfl) ?_
  refine nd fun p w1 e1 s1 k1 m1 => ?_
  have m1 : Own w1 p 44 [sv, lv] := m1
  refine nd fun q w2 e2 s2 k2 m2 => ?_
  have m1 := k2.own m1 id
  have k12 := k1.trans k2
  have hin : ∀ W, Kp w2 W → Win lo hi W sv lv x := fun W h => hv.chg (k12.trans h) fun _ _ _ h => h
  refine drawnK agree mixed 7 [0, 1, 2, 3, 4, 5, 6] (by kernel_rfl) ?_
  conv => whnf
  refine ldk agree rfl rfl (fun W h _ => Own.at_ (xs := [sv]) (o := 0) (h.own m1 id) rfl) (by rfl) fun _ => ?_
  conv => whnf
  refine callf (fun b : Nat => .slice (some ⟨b, 0, none⟩) x.stem.length (x.stem.length + 2)) (fun b W => LentLetters w2.heap.size W.heap.size W (.slice (some ⟨b, 0, none⟩) x.stem.length (x.stem.length + 2)) x.stem) rfl rfl rfl (fun b W W' h k => lentChg h k) callLentLetters (fun W h _ => (lentLetters_c (let_row (hin W h).stem) hv.ls).mono fun en W' hr => ?_) fun bp Dp hDp => ?_
  · cases en with
    | returned v =>
      obtain ⟨k, b, rfl, h1, h2⟩ := hr
      exact ⟨k, b, rfl, b, rfl, by have := h.size; omega, h2⟩
    | _ => exact hr.elim
  conv => whnf
  refine ldk agree rfl rfl (fun W h _ => Own.at_ (xs := [lv]) (o := 1) (h.own m1 id) rfl) (by rfl) fun _ => ?_
  conv => whnf
  refine callf (fun b : Nat => .slice (some ⟨b, 0, none⟩) x.loop.length (x.loop.length + 2)) (fun b W => LentLetters w2.heap.size W.heap.size W (.slice (some ⟨b, 0, none⟩) x.loop.length (x.loop.length + 2)) x.loop ∧ bp < b) rfl rfl rfl (fun b W W' h k => ⟨lentChg h.1 k, h.2⟩) callLentLetters (fun W h h2 => (lentLetters_c (let_row (hin W h).loop) hv.ll).mono fun en W' hr => ?_) fun bi Di hDi => ?_
  · cases en with
    | returned v =>
      obtain ⟨k, b, rfl, h1, h3⟩ := hr
      have hbp : bp < W.heap.size := by
        obtain ⟨b', hb', -, hlt, -⟩ := hDp W (h2 2 (by kernel_rfl))
        cases hb'
        exact hlt
      exact ⟨k, b, rfl, ⟨b, rfl, by have := h.size; omega, h3⟩, by omega⟩
    | _ => exact hr.elim
  conv => whnf
  intro W h hd
  have gp := hDp W (hd 2)
  obtain ⟨gi, glt⟩ := hDi W (hd 5)
  refine st agree (cs := cellsL ti44.zero) (h.own m2 id) rfl (Nat.le_refl 2) rfl ?_
  intro w3 s3 k3 m3
  refine ld (v := .agg #[.slice (some ⟨bp, 0, none⟩) x.stem.length (x.stem.length + 2), .slice (some ⟨bi, 0, none⟩) x.loop.length (x.loop.length + 2)]) agree (Own.at_ (xs := [.slice (some ⟨bp, 0, none⟩) x.stem.length (x.stem.length + 2), .slice (some ⟨bi, 0, none⟩) x.loop.length (x.loop.length + 2)]) (o := 0) m3 rfl) (by rfl) ?_
  refine ⟨(k12.trans h).newS k3 fun j hj => by omega, _, _, rfl, ?_⟩
  have hS : ∀ k, w2.heap.size ≤ k → k < W.heap.size → ¬ k = q := fun k h1 h2 => by omega
  rw [s3]
  exact (show Wlent w2.heap.size W.heap.size w3 _ _ x from ⟨gp.chg k3 hS, gi.chg k3 hS, let_all hv.stem, let_all hv.loop, fun he => by simp only [Value.ownBlock, Option.some.injEq] at he; omega⟩).mono k12.size (Nat.le_refl _)

theorem callWholeWord : callable Proofs.Try.prog 24 = true := by kernel_rfl
theorem wholeWord_c {w : World} {lo hi lo2 hi2 : Nat} {s l s2 l2 : Value} {x : Word} (h : Wlent lo hi w s l x) (h' : Win lo2 hi2 w s2 l2 x) :
    Calls Proofs.Try.prog 24 [.agg #[s, l], .agg #[s2, l2]].toArray w (Ret fun r w' => r = .bool true ∧ Kp w w') := by
  refine call agree Proofs.Try.func24 rfl Proofs.Try.ntmps24 (by kernel_rfl) ?_
  refine nd fun b1 w1 e1' s1' k1 m1 => ?_
  have m1 : Own w1 b1 44 [s, l] := m1
  refine nd fun b2 w2 e2' s2' k2 m2 => ?_
  have m2 : Own w2 b2 44 [s2, l2] := m2
  have m1 := k2.own m1 id
  have k12 := k1.trans k2
  have A : ∀ W, Kp w2 W → Wlent lo hi W s l x := fun W k => h.chg (k12.trans k) fun _ _ _ h => h
  have B : ∀ W, Kp w2 W → Win lo2 hi2 W s2 l2 x := fun W k => h'.chg (k12.trans k) fun _ _ _ h => h
  have c1 := h'.ls
  have c2 := h'.ll
  refine ld agree (Own.at_ (xs := [s]) (o := 0) m1 rfl) (by rfl) ?_
  refine ld agree (Own.at_ (xs := [s2]) (o := 0) m2 rfl) (by rfl) ?_
  refine cl callWholeLetters (wholeLetters_c (A _ (Chg.refl _ _)).stem (let_row (B _ (Chg.refl _ _)).stem) (by omega)) ?_
  rintro _ w3 ⟨rfl, k3⟩
  refine ld agree (Own.at_ (xs := [l]) (o := 1) (k3.own m1 id) rfl) (by rfl) ?_
  refine ld agree (Own.at_ (xs := [l2]) (o := 1) (k3.own m2 id) rfl) (by rfl) ?_
  refine cl callWholeLetters (wholeLetters_c (A _ k3).loop (let_row (B _ k3).loop) (by omega)) ?_
  rintro _ w4 ⟨rfl, k4⟩
  exact ⟨rfl, k12.trans (k3.trans k4)⟩

theorem callFew : callable Proofs.Try.prog 21 = true := by kernel_rfl
theorem few_c (w : World) (pv iv : Value) (ea sa wa1 wa2 : Option Addr) (ec sc wc1 wc2 : Nat) (g : General) (x : Word) (ls : x.stem.length * 2 ≤ 140737488351232) (ll : x.loop.length * 2 ≤ 140737488351232) :
    Calls Proofs.Try.prog 21 [.agg #[pv, .int .i64 g.states, iv, .slice ea g.edges.length ec, .slice sa g.sets.length sc], .agg #[.slice wa1 x.stem.length wc1, .slice wa2 x.loop.length wc2]].toArray w (Ret fun r w' => Kp w w' ∧ ∃ b : Bool, r = .bool b ∧ (b = true → Few g x)) := by
  refine call agree Proofs.Try.func21 rfl Proofs.Try.ntmps21 (by kernel_rfl) ?_
  refine nd fun p w1 e1 s1 k1 m1 => ?_
  have m1 : Own w1 p 28 [pv, .int .i64 g.states, iv, .slice ea g.edges.length ec, .slice sa g.sets.length sc] := m1
  refine nd fun q w2 e2 s2 k2 m2 => ?_
  have m2 : Own w2 q 44 [.slice wa1 x.stem.length wc1, .slice wa2 x.loop.length wc2] := m2
  have m1 := k2.own m1 id
  have k12 := k1.trans k2
  refine ld agree (Own.at_ (xs := [.slice wa1 x.stem.length wc1]) (o := 0) m2 rfl) (by rfl) ?_
  refine ld agree (Own.at_ (xs := [.slice wa2 x.loop.length wc2]) (o := 1) m2 rfl) (by rfl) ?_
  refine aw (by omega) (by omega) ?_
  refine ld agree (Own.at_ (xs := [.int .i64 g.states]) (o := 1) m1 rfl) (by rfl) ?_
  refine sp (fun h1 => ?_) (fun h1 => ?_)
  · refine ld agree (Own.at_ (xs := [.slice ea g.edges.length ec]) (o := 3) m1 rfl) (by rfl) ?_
    refine sp (fun h2 => ?_) (fun h2 => ?_)
    · refine ld agree (Own.at_ (xs := [.slice sa g.sets.length sc]) (o := 4) m1 rfl) (by rfl) ?_
      refine sp (fun h3 => ?_) (fun h3 => ?_)
      · refine sp (fun h4 => ?_) (fun h4 => ?_)
        · exact ⟨k12, true, rfl, fun _ => ⟨h1, by omega, by omega, by omega⟩⟩
        · exact ⟨k12, false, rfl, fun h => by cases h⟩
      · exact ⟨k12, false, rfl, fun h => by cases h⟩
    · exact ⟨k12, false, rfl, fun h => by cases h⟩
  · exact ⟨k12, false, rfl, fun h => by cases h⟩
end Go.Au
