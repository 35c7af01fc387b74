/- Own text of this workplace: a part of the proofs of this place's statements. -/
import Derived.Test.YtjibhchnhkjgkaaB28
import Derived.Test.YtjibhchnhkjgkaaA16
set_option linter.unusedVariables false
set_option linter.unusedSimpArgs false
set_option linter.unusedSectionVars false
namespace Go.Au
open Go Go.RowKit

/-- a pair's state is in the s-th set -/
def InF (g : General) (x : Word) (s i : Nat) : Prop := g.sets.length = 0 ∨ ∃ l, g.sets[s]? = some l ∧ ((i / x.places : Nat) : Int) ∈ l
def Clo (g : General) (x : Word) (N : Nat) (Z : Nat → Prop) (s i : Nat) : Prop := Rch (pairsS g x N) (fun t => Z t ∧ InF g x s t) i
def Post (g : General) (x : Word) (N : Nat) (Z : Nat → Prop) : Prop := ∀ i, Z i → i < N * x.places ∧ ∀ s, s < max g.sets.length 1 → Clo g x N Z s i
theorem Rch.mono {ps : List (List Int)} {P Q : Nat → Prop} (h : ∀ t, P t → Q t) {i : Nat} (hr : Rch ps P i) : Rch ps Q i := fun X hX => hr X fun t f hf ht => hX t f hf (ht.imp (h t) id)
theorem Clo.mono {g : General} {x : Word} {N : Nat} {Z Z' : Nat → Prop} {s i : Nat} (h : ∀ t, Z t → Z' t) (hc : Clo g x N Z s i) : Clo g x N Z' s i := Rch.mono (fun t ht => ⟨h t ht.1, ht.2⟩) hc
theorem gT_lt {l : List Bool} {i : Nat} (h : gT l i) : i < l.length := (List.getElem?_eq_some_iff.1 h).1
theorem gT_get {l : List Bool} {i : Nat} (h : i < l.length) : gT l i ↔ l[i] = true := by unfold gT; rw [List.getElem?_eq_getElem h]; simp
theorem gT_off {l : List Bool} {f j : Nat} : gT (l.set f false) j ↔ j ≠ f ∧ gT l j := by
  unfold gT
  rw [List.getElem?_set]
  by_cases h : f = j
  · subst h; simp
  · rw [if_neg h]; exact ⟨fun h' => ⟨fun hh => h hh.symm, h'⟩, fun h' => h'.2⟩
theorem count_off {l : List Bool} {f : Nat} (hf : f < l.length) (h : l[f] = true) : (l.set f false).count true + 1 = l.count true := by
  induction l generalizing f with
  | nil => simp at hf
  | cons a r ih =>
    cases f with
    | zero => simp at h; subst h; simp
    | succ f =>
      simp at hf h
      simp only [List.set_cons_succ, List.count_cons]
      have := ih hf h
      omega

theorem flatB_len (l : List Bool) : (l.flatMap fB).length = l.length := by rw [flatB, List.length_map]
theorem callRuns : callable Proofs.Try.prog 71 = true := by kernel_rfl
theorem pairs_in {g : General} {x : Word} (hg : Good g) (hx : x.loop.length ≠ 0) (hF : Few g x) {N : Nat} (hN : g.states = N) : ∀ l ∈ pairsS g x N, l.length ≤ 9000 ∧ ∀ f ∈ l, 0 ≤ f ∧ f < ((N * x.places : Nat) : Int) := by
  intro l hl
  obtain ⟨s, -, rfl⟩ := List.mem_map.1 hl
  refine ⟨?_, fun f hf => ?_⟩
  · have h1 := keyed_len (pairsL x g.edges) s
    have h2 := pairsL_len x g.edges
    have h3 : g.edges.length * x.places ≤ 300 * 30 := Nat.mul_le_mul hF.ed hF.places
    omega
  · rw [keyed_mem] at hf
    simp only [pairsL, pairsOf, List.mem_flatMap, List.mem_range] at hf
    obtain ⟨e, he, p, hp, hf⟩ := hf
    unfold pairOf at hf
    split at hf
    · simp only [List.mem_singleton, Prod.mk.injEq] at hf
      obtain ⟨-, rfl⟩ := hf
      have her := hg.edges e he
      obtain ⟨t, ht⟩ : ∃ t : Nat, e.frm = t := ⟨e.frm.toNat, by omega⟩
      have := idx_lt (t := t) (N := N) (by omega) hp
      rw [ht, ← Int.natCast_mul, ← Int.natCast_add]
      omega
    · simp at hf
theorem pairs_len (g : General) (x : Word) (N : Nat) : (pairsS g x N).length = N * x.places := by simp [pairsS]

structure RunsI (g : General) (x : Word) (N : Nat) (zl : List Bool) : Prop where
  len : zl.length = N * x.places
  max : ∀ Z, Post g x N Z → ∀ i, Z i → gT zl i

set_option maxHeartbeats 4000000 in
theorem runs_c {w : World} {pv iv ev sv stv lov : Value} {g : General} {x : Word} (hv : GenV 0 w.heap.size w pv iv ev sv g) (hw : WordV 0 w.heap.size w stv lov x) (hg : Good g) (hx : x.loop.length ≠ 0) (hF : Few g x) {N : Nat} (hN : g.states = N) :
    Calls Proofs.Try.prog 71 [.agg #[pv, .int .i64 g.states, iv, ev, sv], .agg #[stv, lov]].toArray w (Ret fun r w' => Kp w w' ∧ ∃ b zl, r = .slice (some ⟨b, 0, none⟩) (N * x.places) (N * x.places) ∧ Own w' b 4 (zl.flatMap fB) ∧ zl.length = N * x.places ∧ ∀ i, gT zl i ↔ ∃ Z, Post g x N Z ∧ Z i) := by
  have hF0 := hF
  obtain ⟨f1, f2, f3, f4⟩ := hF
  have hpl := hF0.places
  have hpp := places_pos hx
  have ls := hw.ls
  have ll := hw.ll
  obtain ⟨wa1, wc1, rfl, -⟩ := id hw.stem
  obtain ⟨wa2, wc2, rfl, -⟩ := id hw.loop
  have h0 := hg.s0
  have hNn : N * x.places ≤ 60 * 30 := Nat.mul_le_mul (by omega) hpl
  have hgen := hv
  obtain ⟨sa, sc, rfl, -, -⟩ := id hv.sets
  refine call agree Proofs.Try.func71 rfl Proofs.Try.ntmps71 (by kernel_rfl) ?_
  refine nd fun p2 w1 e1 s1 k1 m1 => ?_
  have m2 : Own w1 p2 28 [pv, .int .i64 g.states, iv, ev, .slice sa g.sets.length sc] := m1
  refine nd fun p3 w2 e2 s2 k2 m3 => ?_
  have m3 : Own w2 p3 44 [.slice wa1 x.stem.length wc1, .slice wa2 x.loop.length wc2] := m3
  have m2 := k2.own m2 id
  refine ld (v := .agg #[.slice wa1 x.stem.length wc1, .slice wa2 x.loop.length wc2]) agree (Own.at_ (xs := [.slice wa1 x.stem.length wc1, .slice wa2 x.loop.length wc2]) (o := 0) m3 rfl) (by rfl) ?_
  refine cl callRPlaces (rplaces_c wa1 wa2 wc1 wc2 x ls ll) ?_
  rintro _ w3 ⟨rfl, k3⟩
  have k13 : Kp w w3 := k1.trans (k2.trans k3)
  have m2 := k3.own m2 id
  have m3 := k3.own m3 id
  refine ld (v := .agg #[pv, .int .i64 g.states, iv, ev, .slice sa g.sets.length sc]) agree (Own.at_ (xs := [pv, .int .i64 g.states, iv, ev, .slice sa g.sets.length sc]) (o := 0) m2 rfl) (by rfl) ?_
  refine ld (v := .agg #[.slice wa1 x.stem.length wc1, .slice wa2 x.loop.length wc2]) agree (Own.at_ (xs := [.slice wa1 x.stem.length wc1, .slice wa2 x.loop.length wc2]) (o := 0) m3 rfl) (by rfl) ?_
  refine cl callPairs (pairs_c (hgen.chg k13 (Nat.le_refl _) k13.size) (hw.chg k13 (Nat.le_refl _) k13.size) hg hx hF0 hN) ?_
  rintro pv' w4 ⟨k4, hpr⟩
  have k14 := k13.trans k4
  have m2 := k4.own m2 id
  have m3 := k4.own m3 id
  refine ld agree (Own.at_ (xs := [.int .i64 g.states]) (o := 1) m2 rfl) (by rfl) ?_
  refine arE (z' := ((N * x.places : Nat) : Int)) (by rw [hN, ← Int.natCast_mul]; exact wrap64 (by omega) (by omega)) ?_
  refine ms agree rfl rfl rfl rfl rfl rfl (by omega) (Int.le_refl _) (by show (1 : Int) * _ ≤ _; omega) (by omega) fun b w5 e5 s5 k5 m5 => ?_
  have m5 : Own w5 b 4 ((List.replicate (N * x.places) false).flatMap fB) := by
    have m5 : Own w5 b 4 (rep [.bool false] ((N * x.places : Nat) : Int).toNat) := m5
    rwa [Int.toNat_natCast, repB] at m5
  rw [Int.toNat_natCast]
  have m2 := k5.own m2 id
  have m3 := k5.own m3 id
  obtain ⟨pa, pc, rfl, -⟩ := id hpr
  refine loop agree (σ := Nat × List Bool) (fun t => [(2, pt p2 0), (3, pt p3 0), (5, .int .i64 (x.places : Nat)), (6, .slice pa (pairsS g x N).length pc), (7, .slice (some ⟨b, 0, none⟩) (N * x.places) (N * x.places)), (8, .int .i64 t.1)])
    (fun t w' => Chg (fun k => k = b) w5 w' ∧ w'.heap.size = w5.heap.size ∧ t.1 ≤ N * x.places ∧ Own w' b 4 (t.2.flatMap fB) ∧ t.2.length = N * x.places ∧ ∀ j, j < t.1 → gT t.2 j) (fun t => N * x.places - t.1) (0, List.replicate (N * x.places) false)
    ⟨rfl, rfl, rfl, rfl, rfl, rfl, trivial⟩ ⟨Chg.refl _ _, rfl, by simp, m5, by simp, by simp⟩ ?_
  rintro ⟨i, zl⟩ e0 w6 ⟨c6, s6, hi, mb, hzl, hall⟩
  simp only at hi mb hzl hall
  refine sp (fun hlt => ?_) (fun hge => ?_)
  · have hi' : i < N * x.places := by simp only at hlt; omega
    refine ne ⟨by omega, by omega⟩ ?_
    refine st agree (o := 0 + ((i : Nat) : Int).toNat * 1) mb rfl (by rw [Int.toNat_natCast, flatB, List.length_map]; show 0 + i * 1 + 1 ≤ _; omega) rfl ?_
    intro w7 s7 k7 m7
    have m7 : Own w7 b 4 (lay (zl.flatMap fB) (0 + ((i : Nat) : Int).toNat * 1) [.bool true]) := m7
    rw [setB _ i _ _ (by rw [Int.toNat_natCast]; omega)] at m7
    refine aw (by omega) (by omega) ?_
    refine again (i + 1, zl.set i true) ⟨rfl, rfl, rfl, rfl, rfl, rfl, trivial⟩ ⟨c6.trans k7, by omega, by simp only; omega, m7, by simp [hzl], fun j hj => ?_⟩ (by simp only; omega)
    simp only at hj ⊢
    rw [gT_set (by omega)]
    by_cases h : j = i
    · exact .inl h
    · exact .inr (hall j (by omega))
  have hiM : i = N * x.places := by simp only at hge; omega
  subst hiM
  have k56 : Kp w4 w6 := k5.newS c6 fun j hj => by omega
  have k16 := k14.trans k56
  have m2 := c6.own m2 (fun h => by have := k4.size; have := m2.lt; exact absurd (own_ne m2 m5 (by decide)) (by simp [h]))
  have m3 := c6.own m3 (fun h => absurd (own_ne m3 m5 (by decide)) (by simp [h]))
  refine ld (v := .agg #[pv, .int .i64 g.states, iv, ev, .slice sa g.sets.length sc]) agree (Own.at_ (xs := [pv, .int .i64 g.states, iv, ev, .slice sa g.sets.length sc]) (o := 0) m2 rfl) (by rfl) ?_
  refine cl callMembers (members_c (hgen.chg k16 (Nat.le_refl _) k16.size) hg hN (by omega)) ?_
  rintro mv w7 ⟨k7, hmr⟩
  have hbw : w.heap.size ≤ b := by have := k14.size; omega
  have k17 := k16.trans k7
  have m2 := k7.own m2 id
  have m3 := k7.own m3 id
  have mb := k7.own mb id
  have hpr7 : PairRows w3.heap.size w4.heap.size w7 (.slice pa (pairsS g x N).length pc) (pairsS g x N) := RowE.chg hpr (k56.trans k7) (fun _ _ _ h => h) fun _ _ ⟨u, h1, h2⟩ => ⟨u, h1, h2.chg (k56.trans k7) (fun _ _ _ h => h) (fun _ _ h => h)⟩
  obtain ⟨ma, mc, rfl, -⟩ := id hmr
  have hpin := pairs_in hg hx hF0 hN
  have hplen := pairs_len g x N
  -- what stays, whatever is written into z
  have keepP : ∀ {W}, Chg (fun k => k = b) w7 W → PairRows w3.heap.size w4.heap.size W (.slice pa (pairsS g x N).length pc) (pairsS g x N) := fun h => RowE.chg hpr7 h (fun k _ h2 hk => by omega) fun _ _ ⟨u, h1, h2⟩ => ⟨u, h1, h2.chg h (fun k _ h2 hk => by omega) (fun _ _ h => h)⟩
  have keepM : ∀ {W}, Chg (fun k => k = b) w7 W → BoolRows w6.heap.size w7.heap.size W (.slice ma (g.sets.map (membS N)).length mc) (g.sets.map (membS N)) := fun h => RowE.chg hmr h (fun k h1 _ hk => by have := mb.lt; omega) fun _ _ ⟨u, h1, h2⟩ => ⟨u, h1, h2.chg h (fun k h1 _ hk => by omega) (fun _ _ h => h)⟩
  have keep2 : ∀ {W}, Chg (fun k => k = b) w7 W → Own W p2 28 [pv, .int .i64 g.states, iv, ev, .slice sa g.sets.length sc] := fun h => h.own m2 fun hb => absurd (own_ne m2 mb (by decide)) (by simp [hb])
  have hb7 : b < w7.heap.size := mb.lt
  refine loop agree (σ := Bool × List Bool) (fun t => [(2, pt p2 0), (5, .int .i64 (x.places : Nat)), (6, .slice pa (pairsS g x N).length pc), (7, .slice (some ⟨b, 0, none⟩) (N * x.places) (N * x.places)), (9, .slice ma (g.sets.map (membS N)).length mc), (10, .bool t.1)])
    (fun t w' => Chg (fun k => k = b) w7 w' ∧ Own w' b 4 (t.2.flatMap fB) ∧ RunsI g x N t.2 ∧ (t.1 = false → Post g x N (gT t.2))) (fun t => 2 * t.2.count true + (if t.1 then 1 else 0)) (true, zl)
    ⟨rfl, rfl, rfl, rfl, rfl, rfl, trivial⟩ ⟨Chg.refl _ _, mb, ⟨hzl, fun Z hZ i hi => hall i (hZ i hi).1⟩, by simp⟩ ?_
  clear hall hzl mb hge
  rintro ⟨ag0, zl0⟩ e0 w8 ⟨c8, mb, hR0, hpost⟩
  simp only at mb hR0 hpost
  cases ag0 with
  | false =>
    refine ⟨k17.newS c8 fun j hj => by omega, b, zl0, rfl, mb, hR0.len, fun i => ⟨fun h => ⟨gT zl0, hpost rfl, h⟩, fun ⟨Z, h1, h2⟩ => hR0.max Z h1 i h2⟩⟩
  | true =>
  refine loop agree (σ := Nat × Bool × List Bool) (fun t => [(2, pt p2 0), (5, .int .i64 (x.places : Nat)), (6, .slice pa (pairsS g x N).length pc), (7, .slice (some ⟨b, 0, none⟩) (N * x.places) (N * x.places)), (9, .slice ma (g.sets.map (membS N)).length mc), (10, .bool t.2.1), (11, .int .i64 t.1)])
    (fun t w' => Chg (fun k => k = b) w7 w' ∧ t.1 ≤ max g.sets.length 1 ∧ Own w' b 4 (t.2.2.flatMap fB) ∧ RunsI g x N t.2.2 ∧ (t.2.1 = false → t.2.2 = zl0 ∧ ∀ s, s < t.1 → ∀ i, gT zl0 i → Clo g x N (gT zl0) s i) ∧ (t.2.1 = true → t.2.2.count true < zl0.count true)) (fun t => max g.sets.length 1 - t.1) (0, false, zl0)
    ⟨rfl, rfl, rfl, rfl, rfl, rfl, rfl, trivial⟩ ⟨c8, by simp, mb, hR0, by simp, by simp⟩ ?_
  clear mb
  rintro ⟨s, ag, zl⟩ e0' w9 ⟨c9, hs, mb, hR, hf, ht⟩
  simp only at hs mb hR hf ht
  refine ld agree (Own.at_ (xs := [.slice sa g.sets.length sc]) (o := 4) (keep2 c9) rfl) (by rfl) ?_
  refine mxE (z := ((max g.sets.length 1 : Nat) : Int)) rfl rfl rfl (by split <;> omega) ?_
  refine sp (fun hlt => ?_) (fun hge => ?_)
  · have hs' : s < max g.sets.length 1 := by simp only at hlt; omega
    refine ms agree rfl rfl rfl rfl rfl rfl (by omega) (Int.le_refl _) (by show (1 : Int) * _ ≤ _; omega) (by omega) fun bg w10 e10 s10 k10 m10 => ?_
    have m10 : Own w10 bg 4 ((List.replicate (N * x.places) false).flatMap fB) := by
      have m10 : Own w10 bg 4 (rep [.bool false] ((N * x.places : Nat) : Int).toNat) := m10
      rwa [Int.toNat_natCast, repB] at m10
    rw [Int.toNat_natCast]
    have c10 : Chg (fun k => k = b) w7 w10 := c9.trans (k10.mono fun _ hf => hf.elim)
    have mb10 := k10.own mb id
    have hbg : b < bg := by have := mb.lt; omega
    refine loop agree (σ := Nat × List Bool) (fun t => [(2, pt p2 0), (5, .int .i64 (x.places : Nat)), (6, .slice pa (pairsS g x N).length pc), (7, .slice (some ⟨b, 0, none⟩) (N * x.places) (N * x.places)), (9, .slice ma (g.sets.map (membS N)).length mc), (10, .bool ag), (11, .int .i64 s), (12, .slice (some ⟨bg, 0, none⟩) (N * x.places) (N * x.places)), (13, .int .i64 t.1)])
      (fun t w' => Chg (fun k => k = bg) w10 w' ∧ w10.heap.size ≤ w'.heap.size ∧ t.1 ≤ N * x.places ∧ Own w' bg 4 (t.2.flatMap fB) ∧ t.2.length = N * x.places ∧ ∀ j, j < t.1 → (gT t.2 j ↔ gT zl j ∧ InF g x s j)) (fun t => N * x.places - t.1) (0, List.replicate (N * x.places) false)
      ⟨rfl, rfl, rfl, rfl, rfl, rfl, rfl, rfl, rfl, trivial⟩ ⟨Chg.refl _ _, Nat.le_refl _, by simp, m10, by simp, by simp⟩ ?_
    rintro ⟨i, gl⟩ e0'' w11 ⟨c11, s11, hi, mg, hgl, hgj⟩
    simp only at hi mg hgl hgj
    have c11' : Chg (fun k => k = b) w7 w11 := c10.newT c11 fun j hj => .inr (by have := c9.size; omega)
    have mb11 := c11.own mb10 (by omega)
    have R2 := keep2 c11'
    have RM := keepM c11'
    refine sp (fun hlt2 => ?_) (fun hge2 => ?_)
    · have hi' : i < N * x.places := by simp only at hlt2; omega
      have hil : i < zl.length := by rw [hR.len]; exact hi'
      have step : ∀ (W w12 : World) (v : Bool), Kp w11 W → (v = true ↔ gT zl i ∧ InF g x s i) → w12.heap.size = W.heap.size → Chg (fun k => k = bg) W w12 → w12.heap[bg]? = some (.cells (lay (gl.flatMap fB) (0 + ((i : Nat) : Int).toNat * 1) [.bool v]).toArray 4 (0, 0)) → ∀ e',
          Has e' [(2, pt p2 0), (5, .int .i64 (x.places : Nat)), (6, .slice pa (pairsS g x N).length pc), (7, .slice (some ⟨b, 0, none⟩) (N * x.places) (N * x.places)), (9, .slice ma (g.sets.map (membS N)).length mc), (10, .bool ag), (11, .int .i64 s), (12, .slice (some ⟨bg, 0, none⟩) (N * x.places) (N * x.places)), (13, .int .i64 (i + 1 : Nat))] → e' mark = undef →
          Again (σ := Nat × List Bool) (fun t => [(2, pt p2 0), (5, .int .i64 (x.places : Nat)), (6, .slice pa (pairsS g x N).length pc), (7, .slice (some ⟨b, 0, none⟩) (N * x.places) (N * x.places)), (9, .slice ma (g.sets.map (membS N)).length mc), (10, .bool ag), (11, .int .i64 s), (12, .slice (some ⟨bg, 0, none⟩) (N * x.places) (N * x.places)), (13, .int .i64 t.1)])
            (fun t w' => Chg (fun k => k = bg) w10 w' ∧ w10.heap.size ≤ w'.heap.size ∧ t.1 ≤ N * x.places ∧ Own w' bg 4 (t.2.flatMap fB) ∧ t.2.length = N * x.places ∧ ∀ j, j < t.1 → (gT t.2 j ↔ gT zl j ∧ InF g x s j)) (fun t => N * x.places - t.1) (i, gl) e' w12 := fun W w12 v hk hvv hs12 hc12 hm12 e' he hmk => by
        have hsz := hk.size
        have hm12 : Own w12 bg 4 (lay (gl.flatMap fB) (0 + ((i : Nat) : Int).toNat * 1) [.bool v]) := hm12
        rw [setB _ i _ _ (by rw [Int.toNat_natCast]; omega)] at hm12
        refine again (hm := hmk) (i + 1, gl.set i v) he ⟨(c11.trans (hk.mono fun _ hf => hf.elim)).trans hc12, by omega, by simp only; omega, hm12, by simp [hgl], fun j hj => ?_⟩ (by simp only; omega)
        simp only at hj ⊢
        by_cases hji : j = i
        · subst hji
          rw [← hvv]
          unfold gT
          rw [List.getElem?_set_self (by omega)]
          simp
        · rw [← hgj j (by omega)]
          unfold gT
          rw [List.getElem?_set_ne (by omega)]
      refine drawn0 agree mixed 24 (by kernel_rfl) (fun _ => False) ?_
      conv => whnf
      refine ne ⟨by omega, by omega⟩ ?_
      conv => whnf
      refine ldk (v := .bool zl[i]) agree rfl rfl (fun W h _ => Own.one (h.own mb11 id) (getB hil) (by rw [Int.toNat_natCast]; show 0 + i * 1 = i; omega)) (by rfl) fun _ => ?_
      conv => whnf
      cases hz : zl[i] with
      | false =>
        conv => whnf
        refine ne ⟨by omega, by omega⟩ ?_
        conv => whnf
        intro W h _
        refine st agree (o := 0 + ((i : Nat) : Int).toNat * 1) (h.own mg id) rfl (by have := flatB_len gl; rw [Int.toNat_natCast]; show 0 + i * 1 + 1 ≤ (gl.flatMap fB).length; omega) rfl ?_
        intro w12 s12 k12 m12
        refine aw (by omega) (by omega) ?_
        exact step W w12 false h (by rw [gT_get hil, hz]; simp) s12 k12 m12 _ ⟨rfl, rfl, rfl, rfl, rfl, rfl, rfl, rfl, rfl, trivial⟩ rfl
      | true =>
        conv => whnf
        refine ldk agree rfl rfl (fun W h _ => Own.at_ (xs := [.slice sa g.sets.length sc]) (o := 4) (h.own R2 id) rfl) (by rfl) fun _ => ?_
        conv => whnf
        refine sp (fun h9 => ?_) (fun h9 => ?_)
        · conv => whnf
          refine ne ⟨by omega, by omega⟩ ?_
          conv => whnf
          intro W h _
          refine st agree (o := 0 + ((i : Nat) : Int).toNat * 1) (h.own mg id) rfl (by have := flatB_len gl; rw [Int.toNat_natCast]; show 0 + i * 1 + 1 ≤ (gl.flatMap fB).length; omega) rfl ?_
          intro w12 s12 k12 m12
          refine aw (by omega) (by omega) ?_
          exact step W w12 true h (by rw [gT_get hil, hz]; exact ⟨fun _ => ⟨rfl, .inl (by omega)⟩, fun _ => rfl⟩) s12 k12 m12 _ ⟨rfl, rfl, rfl, rfl, rfl, rfl, rfl, rfl, rfl, trivial⟩ rfl
        · have hsl : s < g.sets.length := by omega
          have hdiv : i / x.places < N := Nat.div_lt_of_lt_mul (by rw [Nat.mul_comm]; exact hi')
          obtain ⟨ma', mc', hma, -, hme⟩ := id RM
          obtain ⟨bm, om, hbm, -, -, cs, hcs, hrdm, u, rfl, ua, uc, rfl, huc, hue⟩ := hme s (membS N g.sets[s]) (by simp [hsl])
          cases hma
          subst hbm
          obtain ⟨bu, ou, hbu, -, -, cs, hcs2, hrdu, rfl⟩ := hue (i / x.places) _ (membS_get (l := g.sets[s]) hdiv)
          subst hbu
          conv => whnf
          refine ne ⟨by omega, by simp; omega⟩ ?_
          conv => whnf
          refine ldk agree rfl rfl (fun W h _ => h.range hrdm id) (by rfl) fun _ => ?_
          conv => whnf
          refine ne (by omega) ?_
          conv => whnf
          obtain ⟨dv, hdv⟩ : ∃ dv : Nat, i / x.places = dv := ⟨_, rfl⟩
          have hq : ((i : Nat) : Int).tdiv ((x.places : Nat) : Int) = ((dv : Nat) : Int) := by rw [← hdv, Int.ofNat_tdiv]
          have hdv2 : dv < N := by rw [← hdv]; exact hdiv
          refine arE (z' := ((dv : Nat) : Int)) (by rw [hq]; exact wrap64 (by omega) (by omega)) ?_
          conv => whnf
          refine ne ⟨by omega, by rw [membS_len]; omega⟩ ?_
          conv => whnf
          refine ldk agree rfl rfl (fun W h _ => h.range (by rw [Int.toNat_natCast, ← hdv]; exact hrdu) id) (by rfl) fun _ => ?_
          conv => whnf
          refine ne ⟨by omega, by omega⟩ ?_
          conv => whnf
          intro W h _
          refine st agree (o := 0 + ((i : Nat) : Int).toNat * 1) (h.own mg id) rfl (by have := flatB_len gl; rw [Int.toNat_natCast]; show 0 + i * 1 + 1 ≤ (gl.flatMap fB).length; omega) rfl ?_
          intro w12 s12 k12 m12
          refine aw (by omega) (by omega) ?_
          refine step W w12 (decide (((i / x.places : Nat) : Int) ∈ g.sets[s])) h ?_ s12 k12 m12 _ ⟨rfl, rfl, rfl, rfl, rfl, rfl, rfl, rfl, rfl, trivial⟩ rfl
          rw [gT_get hil, hz]
          simp only [decide_eq_true_eq, true_and]
          constructor
          · intro hm
            exact .inr ⟨g.sets[s], by simp [hsl], hm⟩
          · rintro (h0 | ⟨l, hl, hm⟩)
            · omega
            · rw [List.getElem?_eq_getElem hsl] at hl
              cases hl
              exact hm
    · have hiM : i = N * x.places := by simp only at hge2; omega
      subst hiM
      have hgall : ∀ j, gT gl j ↔ gT zl j ∧ InF g x s j := fun j => by
        rcases Nat.lt_or_ge j (N * x.places) with h | h
        · exact hgj j h
        · constructor
          · intro h'; have := gT_lt h'; omega
          · intro h'; have := gT_lt h'.1; have := hR.len; omega
      have hgrow : Bools 0 w11.heap.size w11 (.slice (some ⟨bg, 0, none⟩) (N * x.places) (N * x.places)) gl := by
        have := own_row (f := fB) (l := gl) (fun _ => rfl) (by decide) mg (by rw [hgl]; simp only [maxLen]; omega)
        rwa [hgl] at this
      have hcall := reaches_c (keepP c11') hgrow hplen hgl (by omega) hpin
      refine cl callReaches hcall ?_
      rintro _ w12 ⟨k12, bc, ol, rfl, hbc, mc12, hol, hch⟩
      have c12 : Chg (fun k => k = b) w7 w12 := c11'.trans (k12.mono fun _ hf => hf.elim)
      have mb12 := k12.own mb11 id
      refine loop agree (σ := Nat × Bool × List Bool) (fun t => [(2, pt p2 0), (5, .int .i64 (x.places : Nat)), (6, .slice pa (pairsS g x N).length pc), (7, .slice (some ⟨b, 0, none⟩) (N * x.places) (N * x.places)), (9, .slice ma (g.sets.map (membS N)).length mc), (10, .bool t.2.1), (11, .int .i64 s), (14, .slice (some ⟨bc, 0, none⟩) (N * x.places) (N * x.places)), (15, .int .i64 t.1)])
        (fun t w' => Chg (fun k => k = b) w12 w' ∧ t.1 ≤ N * x.places ∧ Own w' b 4 (t.2.2.flatMap fB) ∧ t.2.2.length = N * x.places ∧ (∀ j, gT t.2.2 j ↔ gT zl j ∧ (j < t.1 → gT ol j)) ∧ (t.2.1 = false → ag = false ∧ t.2.2 = zl) ∧ (t.2.1 = true → ag = true ∨ t.2.2.count true < zl.count true) ∧ t.2.2.count true ≤ zl.count true) (fun t => N * x.places - t.1) (0, ag, zl)
        ⟨rfl, rfl, rfl, rfl, rfl, rfl, rfl, rfl, rfl, trivial⟩ ⟨Chg.refl _ _, by simp, mb12, hR.len, by simp, by simp, fun h => .inl h, Nat.le_refl _⟩ ?_
      rintro ⟨i, ag', zl'⟩ e9 w13 ⟨c13, hi, mb13, hl', hj', hf', ht', hcnt⟩
      simp only at hi mb13 hl' hj' hf' ht' hcnt
      have hbcb : b < bc := by have := mb11.lt; omega
      have mc13 := c13.own mc12 (by omega)
      refine sp (fun hlt2 => ?_) (fun hge2 => ?_)
      · have hi' : i < N * x.places := by simp only at hlt2; omega
        have hil : i < zl'.length := by omega
        have hio : i < ol.length := by omega
        refine ne ⟨by omega, by omega⟩ ?_
        refine ld (v := .bool zl'[i]) agree (Own.one mb13 (getB hil) (by rw [Int.toNat_natCast]; show 0 + i * 1 = i; omega)) (by rfl) ?_
        cases hz : zl'[i] with
        | false =>
          refine aw (by omega) (by omega) ?_
          refine again (i + 1, ag', zl') ⟨rfl, rfl, rfl, rfl, rfl, rfl, rfl, rfl, rfl, trivial⟩ ⟨c13, by simp only; omega, mb13, hl', fun j => ?_, hf', ht', hcnt⟩ (by simp only; omega)
          simp only
          by_cases hji : j = i
          · subst hji
            have hn : ¬ gT zl' j := by rw [gT_get hil, hz]; simp
            have hn2 := (not_congr (hj' j)).1 hn
            constructor
            · exact fun h => absurd h hn
            · exact fun h => absurd ⟨h.1, fun hh => absurd hh (by omega)⟩ hn2
          · rw [hj' j]
            constructor
            · exact fun ⟨a, c⟩ => ⟨a, fun hh => c (by omega)⟩
            · exact fun ⟨a, c⟩ => ⟨a, fun hh => c (by omega)⟩
        | true =>
          refine ne ⟨by omega, by omega⟩ ?_
          refine ld (v := .bool ol[i]) agree (Own.one mc13 (getB hio) (by rw [Int.toNat_natCast]; show 0 + i * 1 = i; omega)) (by rfl) ?_
          cases hoi : ol[i] with
          | true =>
            refine aw (by omega) (by omega) ?_
            refine again (i + 1, ag', zl') ⟨rfl, rfl, rfl, rfl, rfl, rfl, rfl, rfl, rfl, trivial⟩ ⟨c13, by simp only; omega, mb13, hl', fun j => ?_, hf', ht', hcnt⟩ (by simp only; omega)
            simp only
            rw [hj' j]
            constructor
            · exact fun ⟨a, c⟩ => ⟨a, fun hh => by
                by_cases hji : j = i
                · subst hji; rw [gT_get hio, hoi]
                · exact c (by omega)⟩
            · exact fun ⟨a, c⟩ => ⟨a, fun hh => c (by omega)⟩
          | false =>
            refine ne ⟨by omega, by omega⟩ ?_
            refine st agree (o := 0 + ((i : Nat) : Int).toNat * 1) mb13 rfl (by have := flatB_len zl'; rw [Int.toNat_natCast]; show 0 + i * 1 + 1 ≤ (zl'.flatMap fB).length; omega) rfl ?_
            intro w14 s14 k14' m14
            have m14 : Own w14 b 4 (lay (zl'.flatMap fB) (0 + ((i : Nat) : Int).toNat * 1) [.bool false]) := m14
            rw [setB _ i _ _ (by rw [Int.toNat_natCast]; omega)] at m14
            have hco := count_off hil hz
            refine aw (by omega) (by omega) ?_
            refine again (i + 1, true, zl'.set i false) ⟨rfl, rfl, rfl, rfl, rfl, rfl, rfl, rfl, rfl, trivial⟩ ⟨c13.trans k14', by simp only; omega, m14, by simp [hl'], fun j => ?_, by simp, fun _ => .inr (by simp only; omega), by simp only; omega⟩ (by simp only; omega)
            simp only
            rw [gT_off, hj' j]
            constructor
            · exact fun ⟨hne, a, c⟩ => ⟨a, fun hh => c (by omega)⟩
            · exact fun ⟨a, c⟩ => ⟨fun hji => (by subst hji; have := c (by omega); rw [gT_get hio, hoi] at this; cases this), a, fun hh => c (by omega)⟩
      · have hiM : i = N * x.places := by simp only at hge2; omega
        subst hiM
        have hz2 : ∀ j, gT zl' j ↔ gT zl j ∧ gT ol j := fun j => by
          rw [hj' j]
          constructor
          · exact fun ⟨a, c⟩ => ⟨a, c (by have := gT_lt a; have := hR.len; omega)⟩
          · exact fun ⟨a, c⟩ => ⟨a, fun _ => c⟩
        have hclo : ∀ j, gT ol j ↔ Clo g x N (gT zl) s j := fun j => by
          rw [hch j]
          exact ⟨fun h => Rch.mono (fun t ht => (hgall t).1 ht) h, fun h => Rch.mono (fun t ht => (hgall t).2 ht) h⟩
        refine aw (by omega) (by omega) ?_
        refine again (s + 1, ag', zl') ⟨rfl, rfl, rfl, rfl, rfl, rfl, rfl, trivial⟩ ⟨c12.trans c13, by simp only; omega, mb13, ⟨hl', fun Z hZ j hj => (hz2 j).2 ⟨hR.max Z hZ j hj, (hclo j).2 (((hZ j hj).2 s hs').mono fun t ht => hR.max Z hZ t ht)⟩⟩, fun h => ?_, fun h => ?_⟩ (by simp only; omega)
        · simp only at h ⊢
          obtain ⟨h1, h2⟩ := hf' h
          obtain ⟨h3, h4⟩ := hf h1
          refine ⟨h2.trans h3, fun s' hs2 j hj => ?_⟩
          rcases Nat.lt_or_ge s' s with h5 | h5
          · exact h4 s' h5 j hj
          · have : s' = s := by omega
            subst this
            have hj2 : gT zl' j := by rw [h2, h3]; exact hj
            have := (hclo j).1 ((hz2 j).1 hj2).2
            rwa [h3] at this
        · simp only at h ⊢
          rcases ht' h with h1 | h1
          · have := ht h1; omega
          · cases hag : ag with
            | true => have := ht hag; omega
            | false => have := (hf hag).1; rw [this] at h1; exact h1
  · have hsS : s = max g.sets.length 1 := by simp only at hge; omega
    subst hsS
    refine again (ag, zl) ⟨rfl, rfl, rfl, rfl, rfl, rfl, trivial⟩ ⟨c9, mb, hR, fun h => ?_⟩ ?_
    · obtain ⟨h1, h2⟩ := hf h
      have h1 : zl = zl0 := h1
      intro i hi
      have hi : gT zl i := hi
      have h3 := gT_lt hi
      have h4 := hR.len
      refine ⟨by omega, fun s hs => ?_⟩
      have h5 := h2 s hs i (by rw [← h1]; exact hi)
      rw [← h1] at h5
      exact h5
    · have hm : 2 * zl.count true + (if ag = true then 1 else 0) < 2 * zl0.count true + 1 := by
        cases hag : ag with
        | false => have := (hf hag).1; rw [this]; simp
        | true => have := ht hag; simp; omega
      exact hm
end Go.Au
