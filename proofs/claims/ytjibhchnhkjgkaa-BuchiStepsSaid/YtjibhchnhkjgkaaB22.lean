/- Own text of this workplace: a part of the proofs of this place's statements. -/
import Derived.Test.YtjibhchnhkjgkaaB21
set_option linter.unusedVariables false
set_option linter.unusedSimpArgs false
set_option linter.unusedSectionVars false
namespace Go.Au
open Go Go.RowKit

theorem arE {z z' : Int} {K : Int → Prop} (hz : z = z') (h : K z') : Ar z K := by subst hz; exact ar h
theorem wrapU16 {z : Int} (h1 : 0 ≤ z) (h2 : z < 65536) : IntKind.u16.wrap z = z := by
  show (if (false && decide (z % 65536 ≥ 32768)) = true then z % 65536 - 65536 else z % 65536) = z
  rw [if_neg (by simp)]; omega

theorem callRCheckG : callable Proofs.Try.prog 19 = true := by kernel_rfl
set_option maxHeartbeats 4000000 in
theorem rcheck_c {w : World} {lo hi : Nat} {pv iv ev sv : Value} {g : General} (hv : GenV lo hi w pv iv ev sv g) :
    Calls Proofs.Try.prog 19 [.agg #[pv, .int .i64 g.states, iv, ev, sv]].toArray w (Ret fun r w' => r = .int .i64 (errS (checkS g)) ∧ Kp w w') := by
  refine call agree Proofs.Try.func19 rfl Proofs.Try.ntmps19 (by kernel_rfl) ?_
  refine nd fun p w1 e1 s1 k1 m1 => ?_
  have m1 : Own w1 p 28 [pv, .int .i64 g.states, iv, ev, sv] := m1
  have ret0 : ∀ W, Kp w1 W → checkS g = false → (Value.int .i64 100 = .int .i64 (errS (checkS g)) ∧ Kp w W) := fun W h hf => ⟨by rw [hf]; rfl, k1.trans h⟩
  have rowc : ∀ W u xs, Kp w1 W → Ints lo hi w u xs → xs.length < 4611686018427387904 → ∀ b, risingFrom g.states none xs = b → Calls Proofs.Try.prog 63 [u, .int .i64 g.states].toArray W (Ret fun r w' => r = .bool b ∧ Kp W w') := fun W u xs h hu hl b hb => by
    subst hb
    exact rising_c (hu.chg (k1.trans h) (fun _ _ _ h => h) (fun _ _ h => h)) hl
  refine ld agree (Own.at_ (xs := [pv]) m1 rfl) (by rfl) ?_
  cases hnm : namesOk g.props with
  | false =>
    refine cl (R := fun r w' => r = .bool false ∧ Kp w1 w') callRNames (by have := rnames_c (hv.props.chg k1 (fun _ _ _ h => h) (fun _ _ h => h)) hv.lp; rw [hnm] at this; exact this) ?_
    rintro _ w2 ⟨rfl, k2⟩
    exact ret0 _ k2 (by simp [checkS, hnm])
  | true =>
  refine cl (R := fun r w' => r = .bool true ∧ Kp w1 w') callRNames (by have := rnames_c (hv.props.chg k1 (fun _ _ _ h => h) (fun _ _ h => h)) hv.lp; rw [hnm] at this; exact this) ?_
  rintro _ w2 ⟨rfl, k2⟩
  have hlp : g.props.length ≤ 8 := by
    unfold namesOk at hnm
    rw [Bool.and_eq_true] at hnm
    exact of_decide_eq_true hnm.2
  refine ld agree (Own.at_ (xs := [.int .i64 g.states]) (k2.own m1 id) rfl) (by rfl) ?_
  refine sp (fun h1 => ?_) (fun h1 => ?_)
  · exact ret0 _ k2 (by simp [checkS, h1])
  refine ld agree (Own.at_ (xs := [.int .i64 g.states]) (k2.own m1 id) rfl) (by rfl) ?_
  refine sp (fun h2 => ?_) (fun h2 => ?_)
  · exact ret0 _ k2 (by simp [checkS, h2])
  refine ld agree (Own.at_ (xs := [iv]) (k2.own m1 id) rfl) (by rfl) ?_
  refine ld agree (Own.at_ (xs := [.int .i64 g.states]) (k2.own m1 id) rfl) (by rfl) ?_
  cases hin : risingFrom g.states none g.init with
  | false =>
    refine cl callRising (rowc w2 iv g.init k2 hv.init hv.li _ hin) ?_
    rintro _ w3 ⟨rfl, k3⟩
    exact ret0 _ (k2.trans k3) (by simp [checkS, hin])
  | true =>
  refine cl callRising (rowc w2 iv g.init k2 hv.init hv.li _ hin) ?_
  rintro _ w3 ⟨rfl, k3⟩
  replace k3 := k2.trans k3
  obtain ⟨pa, pc, rfl, hpc, hprops⟩ := hv.props
  refine ld agree (Own.at_ (xs := [.slice pa g.props.length pc]) (k3.own m1 id) rfl) (by rfl) ?_
  refine ne (by omega) ?_
  have hp2 : (1 : Int) * 2 ^ (min ((g.props.length : Int)).toNat (IntKind.bits .u16)) = 2 ^ g.props.length := by
    rw [Int.toNat_natCast, Nat.min_eq_left (by simp only [IntKind.bits]; omega), Int.one_mul]
  have hb2 : (2 : Int) ^ g.props.length ≤ 256 := by
    have h : (2 : Nat) ^ g.props.length ≤ 2 ^ 8 := Nat.pow_le_pow_right (by decide) hlp
    have := Int.ofNat_le.2 h
    rw [Int.natCast_pow] at this
    exact this
  have hb1 : (1 : Int) ≤ 2 ^ g.props.length := by
    have h : 1 ≤ (2 : Nat) ^ g.props.length := Nat.one_le_two_pow
    have := Int.ofNat_le.2 h
    rw [Int.natCast_pow] at this
    exact this
  refine arE (z' := 2 ^ g.props.length) (by rw [hp2]; exact wrapU16 (by omega) (by omega)) ?_
  refine arE (z' := 2 ^ g.props.length - 1) (wrapU16 (by omega) (by omega)) ?_
  generalize hL : (2 : Int) ^ g.props.length = L at *
  have hck : checkS g = (edgesGo g.states L none g.edges && g.sets.all (risingFrom g.states none)) := by
    simp [checkS, hnm, h1, h2, hin, hL]
  clear hL
  have hle := hv.le
  have hls := hv.ls
  obtain ⟨ea, ec, rfl, hec, hedges⟩ := hv.edges
  obtain ⟨sa, sc, rfl, hsc, hsets⟩ := hv.sets
  refine loop agree (σ := Nat) (fun i => [(1, pt p 0), (4, .int .u16 (L - 1)), (5, .int .i64 i)])
    (fun i w' => Kp w1 w' ∧ i ≤ g.edges.length ∧ edgesGo g.states L none g.edges = edgesGo g.states L (if i = 0 then none else g.edges[i-1]?) (g.edges.drop i)) (fun i => g.edges.length - i) 0
    ⟨rfl, rfl, rfl, trivial⟩ ⟨k3, by omega, by simp⟩ ?_
  rintro i e0 w4 ⟨k4, hi, hr⟩
  have B4 : Own w4 p 28 [.slice pa g.props.length pc, .int .i64 g.states, iv, .slice ea g.edges.length ec, .slice sa g.sets.length sc] := k4.own m1 id
  refine ld agree (Own.at_ (xs := [.slice ea g.edges.length ec]) (o := 3) B4 rfl) (by rfl) ?_
  refine sp (fun h3 => ?_) (fun h3 => ?_)
  · have hi' : i < g.edges.length := by omega
    rw [List.drop_eq_getElem_cons hi'] at hr
    obtain ⟨b, o, rfl, hlo, hhi, cs, hcs, hrd, rfl, hwf⟩ := hedges i g.edges[i] (by simp)
    refine ld agree (Own.at_ (xs := [.slice (some ⟨b, o, none⟩) g.edges.length ec]) (o := 3) B4 rfl) (by rfl) ?_
    refine ne ⟨by omega, h3⟩ ?_
    refine ld agree (v := g.edges[i].val) ((k1.trans k4).range hrd id) rfl ?_
    refine nd fun q w5 e5 s5 k5 m5 => ?_
    refine st agree (cs := [.int .i64 0, .int .i64 0, .int .u16 0, .int .u16 0]) m5 rfl (Nat.le_refl 4) rfl ?_
    intro w6 s6 k6 m6
    have m6 : Own w6 q 52 g.edges[i].cells := m6
    have k46 : Kp w4 w6 := k5.new e5 k6
    have A : ∀ W, Kp w6 W → Own W q 52 g.edges[i].cells := fun W h => h.heap m6 id
    have B : ∀ W, Kp w6 W → Own W p 28 [.slice pa g.props.length pc, .int .i64 g.states, iv, .slice (some ⟨b, o, none⟩) g.edges.length ec, .slice sa g.sets.length sc] := fun W h => h.heap (k46.heap (k4.heap m1 id) id) id
    have bad : ∀ W, Kp w6 W → edgesGo g.states L none g.edges = false → (Value.int .i64 100 = .int .i64 (errS (checkS g)) ∧ Kp w W) := fun W h hf => ret0 W (k4.trans (k46.trans h)) (by rw [hck, hf]; rfl)
    have A0 := A _ (Chg.refl _ _)
    have B0 := B _ (Chg.refl _ _)
    refine ld agree (Own.at_ (xs := [.int .i64 g.edges[i].frm]) (o := 0) A0 rfl) (by rfl) ?_
    refine sp (fun ha => ?_) (fun ha => ?_)
    · exact bad _ (Chg.refl _ _) (by rw [hr]; simp [edgesGo, risingFrom, ha])
    refine ld agree (Own.at_ (xs := [.int .i64 g.edges[i].frm]) (o := 0) A0 rfl) (by rfl) ?_
    refine ld agree (Own.at_ (xs := [.int .i64 g.states]) (o := 1) B0 rfl) (by rfl) ?_
    refine sp (fun hb => ?_) (fun hb => ?_)
    · exact bad _ (Chg.refl _ _) (by rw [hr]; simp [edgesGo, risingFrom, hb])
    refine ld agree (Own.at_ (xs := [.int .i64 g.edges[i].to]) (o := 1) A0 rfl) (by rfl) ?_
    refine sp (fun hc => ?_) (fun hc => ?_)
    · exact bad _ (Chg.refl _ _) (by rw [hr]; simp [edgesGo, risingFrom, hc])
    refine ld agree (Own.at_ (xs := [.int .i64 g.edges[i].to]) (o := 1) A0 rfl) (by rfl) ?_
    refine ld agree (Own.at_ (xs := [.int .i64 g.states]) (o := 1) B0 rfl) (by rfl) ?_
    refine sp (fun hd => ?_) (fun hd => ?_)
    · exact bad _ (Chg.refl _ _) (by rw [hr]; simp [edgesGo, risingFrom, hd])
    have hb1 : risingFrom g.states none [g.edges[i].frm] = true := by simp [risingFrom, ha, hb]
    have hb2 : risingFrom g.states none [g.edges[i].to] = true := by simp [risingFrom, hc, hd]
    refine drawn0 agree mixed 33 (by kernel_rfl) (fun _ => False) ?_
    conv => whnf
    refine ldk agree rfl rfl (fun W h _ => Own.at_ (xs := [.int .u16 g.edges[i].must]) (o := 2) (A W h) rfl) (by rfl) fun _ => ?_
    conv => whnf
    refine sp (fun h5 => ?_) (fun h5 => ?_)
    · conv => whnf
      intro W h _
      exact bad W h (by rw [hr]; simp [edgesGo, show L ≤ g.edges[i].must by omega])
    conv => whnf
    refine ldk agree rfl rfl (fun W h _ => Own.at_ (xs := [.int .u16 g.edges[i].no]) (o := 3) (A W h) rfl) (by rfl) fun _ => ?_
    conv => whnf
    refine sp (fun h6 => ?_) (fun h6 => ?_)
    · conv => whnf
      intro W h _
      exact bad W h (by rw [hr]; simp [edgesGo, show L ≤ g.edges[i].no by omega])
    conv => whnf
    refine ldk agree rfl rfl (fun W h _ => Own.at_ (xs := [.int .u16 g.edges[i].must]) (o := 2) (A W h) rfl) (by rfl) fun _ => ?_
    conv => whnf
    refine ldk agree rfl rfl (fun W h _ => Own.at_ (xs := [.int .u16 g.edges[i].no]) (o := 3) (A W h) rfl) (by rfl) fun _ => ?_
    conv => whnf
    refine ar ?_
    conv => whnf
    refine sp (fun h7 => ?_) (fun h7 => ?_)
    · conv => whnf
      intro W h _
      exact bad W h (by rw [hr]; simp [edgesGo, h7])
    conv => whnf
    have step : ∀ W, Kp w6 W → (match (if i = 0 then none else g.edges[i-1]?) with | some y => decide (0 ≤ orderS y g.edges[i]) | none => false) = false → ∀ e',
        Has e' [(1, pt p 0), (4, .int .u16 (L - 1)), (5, .int .i64 (i + 1 : Nat))] → e' mark = undef →
        Again (σ := Nat) (fun i => [(1, pt p 0), (4, .int .u16 (L - 1)), (5, .int .i64 i)])
          (fun i w' => Kp w1 w' ∧ i ≤ g.edges.length ∧ edgesGo g.states L none g.edges = edgesGo g.states L (if i = 0 then none else g.edges[i-1]?) (g.edges.drop i)) (fun i => g.edges.length - i) i e' W := fun W h hlast e' he hmk =>
      again (hm := hmk) (i + 1) he ⟨k4.trans (k46.trans h), by omega, by
        rw [hr]
        simp only [edgesGo, hb1, hb2, hlast, Bool.true_and, Bool.not_false]
        rw [decide_eq_false (p := L ≤ g.edges[i].must) (by omega), decide_eq_false (p := L ≤ g.edges[i].no) (by omega), decide_eq_false h7]
        simp [List.getElem?_eq_getElem hi']
        exact fun _ => hlast⟩ (by omega)
    refine sp (fun h8 => ?_) (fun h8 => ?_)
    · conv => whnf
      refine ldk agree rfl rfl (fun W h _ => Own.at_ (xs := [.slice (some ⟨b, o, none⟩) g.edges.length ec]) (o := 3) (B W h) rfl) (by rfl) fun _ => ?_
      conv => whnf
      refine aw (by omega) (by omega) ?_
      conv => whnf
      refine ne ⟨by omega, by omega⟩ ?_
      conv => whnf
      obtain ⟨b', o', hb', -, -, cs', hcs', hrd', rfl, hwf'⟩ := hedges (i - 1) g.edges[i-1] (by simp)
      cases hb'
      refine ldk agree (v := g.edges[i-1].val) rfl rfl (fun W h _ => (k1.trans (k4.trans (k46.trans h))).range (by have := hrd'; rw [show (i - 1) * 4 = ((i : Int) - 1).toNat * ti52.size by show _ = ((i : Int) - 1).toNat * 4; omega] at this; exact this) id) (by rfl) fun _ => ?_
      conv => whnf
      refine ldk agree (v := g.edges[i].val) rfl rfl (fun W h _ => Own.at_ (xs := g.edges[i].cells) (o := 0) (A W h) rfl) (by rfl) fun _ => ?_
      conv => whnf
      have h0 : i ≠ 0 := by omega
      cases hah : aheadS g.edges[i-1] g.edges[i] with
      | false =>
        refine callk (v := .bool false) rfl rfl rfl callAhead (fun W _ _ => by have := ahead_c W g.edges[i-1] g.edges[i]; rw [hah] at this; exact this) fun _ => ?_
        conv => whnf
        have h9 := of_decide_eq_false hah
        intro W h _
        have h9 : 0 ≤ orderS g.edges[i-1] g.edges[i] := by omega
        exact bad W h (by rw [hr, if_neg h0, List.getElem?_eq_getElem (by omega)]; simp only [edgesGo]; rw [decide_eq_true h9]; simp)
      | true =>
        refine callk (v := .bool true) rfl rfl rfl callAhead (fun W _ _ => by have := ahead_c W g.edges[i-1] g.edges[i]; rw [hah] at this; exact this) fun _ => ?_
        conv => whnf
        have h9 := of_decide_eq_true hah
        intro W h _
        refine aw (by omega) (by omega) ?_
        exact step W h (by rw [if_neg h0, List.getElem?_eq_getElem (by omega)]; exact decide_eq_false (by omega)) _ ⟨rfl, rfl, rfl, trivial⟩ rfl
    · conv => whnf
      intro W h _
      refine aw (by omega) (by omega) ?_
      exact step W h (by rw [if_pos (by omega)]) _ ⟨rfl, rfl, rfl, trivial⟩ rfl
  · rw [List.drop_eq_nil_of_le (by omega)] at hr
    have hr : edgesGo g.states L none g.edges = true := hr
    refine loop agree (σ := Nat) (fun i => [(1, pt p 0), (7, .int .i64 i)])
      (fun i w' => Kp w1 w' ∧ i ≤ g.sets.length ∧ (g.sets.take i).all (risingFrom g.states none) = true) (fun i => g.sets.length - i) 0
      ⟨rfl, rfl, trivial⟩ ⟨k4, by omega, by simp⟩ ?_
    rintro j e0 w5 ⟨k5, hj, hall⟩
    have B5 : ∀ W, Kp w5 W → Own W p 28 [.slice pa g.props.length pc, .int .i64 g.states, iv, .slice ea g.edges.length ec, .slice sa g.sets.length sc] := fun W h => h.own (k5.own m1 id) id
    refine ld agree (Own.at_ (xs := [.slice sa g.sets.length sc]) (o := 4) (B5 _ (Chg.refl _ _)) rfl) (by rfl) ?_
    refine sp (fun h4 => ?_) (fun h4 => ?_)
    · have hj' : j < g.sets.length := by omega
      obtain ⟨b, o, rfl, hlo, hhi, cs, hcs, hrd, u, rfl, hu, hul⟩ := hsets j g.sets[j] (by simp)
      refine drawn0 agree mixed 9 (by kernel_rfl) (fun _ => False) ?_
      conv => whnf
      refine ldk agree rfl rfl (fun W h _ => Own.at_ (xs := [.slice (some ⟨b, o, none⟩) g.sets.length sc]) (o := 4) (B5 W h) rfl) (by rfl) fun _ => ?_
      conv => whnf
      refine ne ⟨by omega, h4⟩ ?_
      conv => whnf
      refine ldk agree rfl rfl (fun W h _ => (k1.trans (k5.trans h)).range hrd id) (by rfl) fun _ => ?_
      conv => whnf
      refine ldk agree rfl rfl (fun W h _ => Own.at_ (xs := [.int .i64 g.states]) (o := 1) (B5 W h) rfl) (by rfl) fun _ => ?_
      conv => whnf
      cases hb : risingFrom g.states none g.sets[j] with
      | false =>
        refine callk (v := .bool false) rfl rfl rfl callRising (fun W h _ => rowc W u g.sets[j] (k5.trans h) hu hul _ hb) fun _ => ?_
        conv => whnf
        intro W h _
        refine ret0 _ (k5.trans h) ?_
        rw [hck, hr, Bool.true_and, List.all_eq_false]
        exact ⟨g.sets[j], by simp, by simp [hb]⟩
      | true =>
        refine callk (v := .bool true) rfl rfl rfl callRising (fun W h _ => rowc W u g.sets[j] (k5.trans h) hu hul _ hb) fun _ => ?_
        conv => whnf
        intro W h _
        refine aw (by omega) (by omega) ?_
        refine again (j + 1) ⟨rfl, rfl, trivial⟩ ⟨k5.trans h, by omega, ?_⟩ (by omega)
        rw [show g.sets.take (j + 1) = g.sets.take j ++ [g.sets[j]] by simp, List.all_append, hall]
        simp [hb]
    · have ht : g.sets.take j = g.sets := List.take_of_length_le (by omega)
      rw [ht] at hall
      exact ⟨by rw [hck, hr, hall]; rfl, k1.trans k5⟩

theorem callRGeneral : callable Proofs.Try.prog 30 = true := by kernel_rfl
theorem rgeneral_c (w : World) (a1 a2 a3 a4 : Option Addr) (l1 c1 l2 c2 l3 c3 l4 c4 : Nat) (n : Int) :
    Calls Proofs.Try.prog 30 [.agg #[.slice a1 l1 c1, .int .i64 n, .slice a2 l2 c2, .slice a3 l3 c3, .slice a4 l4 c4]].toArray w
      (Ret fun r w' => Kp w w' ∧ ∃ q, w.heap.size ≤ q ∧ q < w'.heap.size ∧ w'.heap[q]? = some (.cells [.slice a4 l4 c4].toArray 24 (0, 0)) ∧ r = .agg #[.slice a1 l1 c1, .int .i64 n, .slice a2 l2 c2, .slice a3 l3 c3, .slice (some ⟨q, 0, none⟩) 1 1]) := by
  refine call agree Proofs.Try.func30 rfl Proofs.Try.ntmps30 (by kernel_rfl) ?_
  refine nd fun p w1 e1 s1 k1 m1 => ?_
  have m1 : Own w1 p 31 [.slice a1 l1 c1, .int .i64 n, .slice a2 l2 c2, .slice a3 l3 c3, .slice a4 l4 c4] := m1
  refine nd fun q w2 e2 s2 k2 m2 => ?_
  have m1 := k2.own m1 id
  refine ld agree (Own.at_ (xs := [.slice a1 l1 c1]) (o := 0) m1 rfl) (by rfl) ?_
  refine ld agree (Own.at_ (xs := [.int .i64 n]) (o := 1) m1 rfl) (by rfl) ?_
  refine ld agree (Own.at_ (xs := [.slice a2 l2 c2]) (o := 2) m1 rfl) (by rfl) ?_
  refine ld agree (Own.at_ (xs := [.slice a3 l3 c3]) (o := 3) m1 rfl) (by rfl) ?_
  refine ld agree (Own.at_ (xs := [.slice a4 l4 c4]) (o := 4) m1 rfl) (by rfl) ?_
  refine ne (by decide) ?_
  refine nd fun r w3 e3 s3 k3 m3 => ?_
  refine st agree (k3.own m2 id) rfl (Nat.le_refl 5) rfl ?_
  intro w4 s4 k4 m4
  refine ld (v := .agg #[.slice a1 l1 c1, .int .i64 n, .slice a2 l2 c2, .slice a3 l3 c3, .slice (some ⟨r, 0, none⟩) 1 1]) agree (Own.at_ (xs := [.slice a1 l1 c1, .int .i64 n, .slice a2 l2 c2, .slice a3 l3 c3, .slice (some ⟨r, 0, none⟩) 1 1]) (o := 0) m4 rfl) (by rfl) ?_
  exact ⟨(k1.trans (k2.trans k3)).newS k4 fun j hj => by omega, r, by omega, by omega, k4.heap m3 (by omega), rfl⟩

theorem callRCheck : callable Proofs.Try.prog 20 = true := by kernel_rfl
theorem rcheckB_c {w : World} {lo hi : Nat} {pv iv ev fv : Value} {g : Buchi} (hv : BuchiV lo hi w pv iv ev fv g) :
    Calls Proofs.Try.prog 20 [.agg #[pv, .int .i64 g.states, iv, ev, fv]].toArray w (Ret fun r w' => r = .int .i64 (errS (checkS g.general)) ∧ Kp w w') := by
  obtain ⟨a1, c1, hh1, -⟩ := id hv.props
  obtain ⟨a2, c2, hh2, -⟩ := id hv.init
  obtain ⟨a3, c3, hh3, -⟩ := id hv.edges
  obtain ⟨a4, c4, hh4, -⟩ := id hv.final
  subst hh1 hh2 hh3 hh4
  refine call agree Proofs.Try.func20 rfl Proofs.Try.ntmps20 (by kernel_rfl) ?_
  refine nd fun p w1 e1 s1 k1 m1 => ?_
  refine ld agree (v := .agg #[.slice a1 g.props.length c1, .int .i64 g.states, .slice a2 g.init.length c2, .slice a3 g.edges.length c3, .slice a4 g.final.length c4]) (Own.at_ (xs := [.slice a1 g.props.length c1, .int .i64 g.states, .slice a2 g.init.length c2, .slice a3 g.edges.length c3, .slice a4 g.final.length c4]) (o := 0) m1 rfl) (by rfl) ?_
  refine cl callRGeneral (rgeneral_c w1 a1 a2 a3 a4 _ c1 _ c2 _ c3 _ c4 g.states) ?_
  rintro _ w2 ⟨k2, q, hq1, hq2, mq, rfl⟩
  have hg := (hv.chg (k1.trans k2) (Nat.le_refl _) (Nat.le_refl _)).general mq
  have hc := rcheck_c hg
  refine cl callRCheckG hc ?_
  rintro _ w3 ⟨rfl, k3⟩
  exact ⟨rfl, k1.trans (k2.trans k3)⟩
end Go.Au
