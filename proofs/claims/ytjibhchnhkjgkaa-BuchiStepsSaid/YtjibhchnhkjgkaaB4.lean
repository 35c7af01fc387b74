/- Own text of this workplace: a part of the proofs of this place's statements. -/
import Derived.Test.YtjibhchnhkjgkaaB3
set_option linter.unusedVariables false
set_option linter.unusedSimpArgs false
set_option linter.unusedSectionVars false
namespace Go.Au
open Go Go.RowKit Go.MapKept
open Go.Maps (Keyed)

def goesS (e : Edge) (l : Int) : Bool := decide (bits .and .u16 l e.must = e.must) && decide (bits .and .u16 l e.no = 0)
theorem goes_c (w : World) (a : Edge) (l : Int) : Calls Proofs.Try.prog 75 [a.val, .int .u16 l].toArray w (Ret fun r w' => r = .bool (goesS a l) ∧ Kp w w') := by
  refine call agree Proofs.Try.func75 rfl Proofs.Try.ntmps75 (by kernel_rfl) ?_
  refine nd fun p w1 e1 s1 k1 m1 => ?_
  have m1 : Own w1 p 52 a.cells := m1
  refine ld agree (Own.at_ (xs := [.int .u16 a.must]) m1 rfl) (by rfl) ?_
  refine ar ?_
  refine ld agree (Own.at_ (xs := [.int .u16 a.must]) m1 rfl) (by rfl) ?_
  refine sp (fun h => ?_) (fun h => ?_)
  · refine ld agree (Own.at_ (xs := [.int .u16 a.no]) m1 rfl) (by rfl) ?_
    refine ar ?_
    refine sp (fun h2 => ?_) (fun h2 => ?_)
    · exact ⟨congrArg Value.bool (by simp [goesS, h, h2]), k1⟩
    · exact ⟨congrArg Value.bool (by simp [goesS, h, h2]), k1⟩
  · exact ⟨congrArg Value.bool (by simp [goesS, h]), k1⟩
theorem callGoes : callable Proofs.Try.prog 75 = true := by kernel_rfl

def Edge.wf (e : Edge) : Prop := 0 ≤ e.must ∧ e.must < 65536 ∧ 0 ≤ e.no ∧ e.no < 65536
abbrev Edges := RowE (fun _ cs (x : Edge) => cs = x.cells ∧ x.wf) 4
abbrev IntRows (lo hi : Nat) := RowE (fun w cs (xs : List Int) => ∃ u, cs = [u] ∧ Ints lo hi w u xs ∧ xs.length < 4611686018427387904) 1 lo hi

structure General where
  props : List ByteArray
  states : Int
  init : List Int
  edges : List Edge
  sets : List (List Int)
structure Buchi where
  props : List ByteArray
  states : Int
  init : List Int
  edges : List Edge
  final : List Int

structure GenV (lo hi : Nat) (w : World) (p i e s : Value) (g : General) : Prop where
  props : Strs lo hi w p g.props
  init : Ints lo hi w i g.init
  edges : Edges lo hi w e g.edges
  sets : IntRows lo hi w s g.sets
  lp : g.props.length < 4611686018427387904
  li : g.init.length < 4611686018427387904
  le : g.edges.length < 4611686018427387904
  ls : g.sets.length < 4611686018427387904

def edgesGo (n : Int) (letters : Int) : Option Edge → List Edge → Bool
  | _, [] => true
  | p, x :: r => risingFrom n none [x.frm] && (risingFrom n none [x.to] && (!decide (letters ≤ x.must) && (!decide (letters ≤ x.no) && (!decide (bits .and .u16 x.must x.no ≠ 0) && (!(match p with | some y => decide (0 ≤ orderS y x) | none => false) && edgesGo n letters (some x) r)))))

def checkS (g : General) : Bool := namesOk g.props && !decide (g.states < 0) && !decide (65536 < g.states) && risingFrom g.states none g.init && edgesGo g.states (2 ^ g.props.length) none g.edges && g.sets.all (risingFrom g.states none)
def errS (b : Bool) : Int := if b then 0 else 100

theorem callNames : callable Proofs.Try.prog 50 = true := by kernel_rfl
theorem callIsRow : callable Proofs.Try.prog 51 = true := by kernel_rfl

set_option maxHeartbeats 4000000 in
theorem check_c {w : World} {lo hi : Nat} {pv iv ev sv : Value} {g : General} (hv : GenV lo hi w pv iv ev sv g) :
    Calls Proofs.Try.prog 13 [.agg #[pv, .int .i64 g.states, iv, ev, sv]].toArray w (Ret fun r w' => r = .int .i64 (errS (checkS g)) ∧ Kp w w') := by
  refine call agree Proofs.Try.func13 rfl Proofs.Try.ntmps13 (by kernel_rfl) ?_
  refine nd fun p w1 e1 s1 k1 m1 => ?_
  have m1 : Own w1 p 28 [pv, .int .i64 g.states, iv, ev, sv] := m1
  have ret0 : ∀ W, Kp w1 W → checkS g = false → (Value.int .i64 100 = .int .i64 (errS (checkS g)) ∧ Kp w W) := fun W h hf => ⟨by rw [hf]; rfl, k1.trans h⟩
  have rowc : ∀ W u xs, Kp w1 W → Ints lo hi w u xs → xs.length < 4611686018427387904 → ∀ b, risingFrom g.states none xs = b → Calls Proofs.Try.prog 51 [u, .int .i64 g.states].toArray W (Ret fun r w' => r = .bool b ∧ Kp W w') := fun W u xs h hu hl b hb => by
    subst hb
    exact isRow_c (hu.chg (k1.trans h) (fun _ _ _ h => h) (fun _ _ h => h)) hl
  refine ld agree (Own.at_ (xs := [pv]) m1 rfl) (by rfl) ?_
  cases hnm : namesOk g.props with
  | false =>
    refine cl (R := fun r w' => r = .bool false ∧ Kp w1 w') callNames (by have := isNames_c (hv.props.chg k1 (fun _ _ _ h => h) (fun _ _ h => h)) hv.lp; rw [hnm] at this; exact this) ?_
    rintro _ w2 ⟨rfl, k2⟩
    exact ret0 _ k2 (by simp [checkS, hnm])
  | true =>
  refine cl (R := fun r w' => r = .bool true ∧ Kp w1 w') callNames (by have := isNames_c (hv.props.chg k1 (fun _ _ _ h => h) (fun _ _ h => h)) hv.lp; rw [hnm] at this; exact this) ?_
  rintro _ w2 ⟨rfl, k2⟩
  have hlp : g.props.length ≤ 8 := by
    unfold namesOk at hnm
    rw [Bool.and_eq_true] at hnm
    exact of_decide_eq_true hnm.2
  refine ld agree (Own.at_ (xs := [.int .i64 g.states]) (k2.own m1 id) rfl) (by rfl) ?_
  refine sp (fun h1 => ?_) (fun h1 => ?_)
  · exact ret0 _ k2 (by simp [checkS, h1])
  refine ld agree (Own.at_ (xs := [.int .i64 g.states]) (k2.own m1 id) rfl) (by rfl) ?_
  refine sp (fun h2 => ?_) (fun h2 => ?_)
  · exact ret0 _ k2 (by simp [checkS, h2])
  refine ld agree (Own.at_ (xs := [iv]) (k2.own m1 id) rfl) (by rfl) ?_
  refine ld agree (Own.at_ (xs := [.int .i64 g.states]) (k2.own m1 id) rfl) (by rfl) ?_
  cases hin : risingFrom g.states none g.init with
  | false =>
    refine cl callIsRow (rowc w2 iv g.init k2 hv.init hv.li _ hin) ?_
    rintro _ w3 ⟨rfl, k3⟩
    exact ret0 _ (k2.trans k3) (by simp [checkS, hin])
  | true =>
  refine cl callIsRow (rowc w2 iv g.init k2 hv.init hv.li _ hin) ?_
  rintro _ w3 ⟨rfl, k3⟩
  replace k3 := k2.trans k3
  obtain ⟨pa, pc, rfl, hpc, hprops⟩ := hv.props
  refine ld agree (Own.at_ (xs := [.slice pa g.props.length pc]) (k3.own m1 id) rfl) (by rfl) ?_
  refine ne (by omega) ?_
  have hp2 : (1 : Int) * 2 ^ (min ((g.props.length : Int)).toNat (IntKind.bits .i64)) = 2 ^ g.props.length := by
    rw [Int.toNat_natCast, Nat.min_eq_left (by simp only [IntKind.bits]; omega), Int.one_mul]
  have hb2 : (2 : Int) ^ g.props.length ≤ 256 := by
    have h : (2 : Nat) ^ g.props.length ≤ 2 ^ 8 := Nat.pow_le_pow_right (by decide) hlp
    have := Int.ofNat_le.2 h
    rw [Int.natCast_pow] at this
    exact this
  have hb1 : (1 : Int) ≤ 2 ^ g.props.length := by
    have h : 1 ≤ (2 : Nat) ^ g.props.length := Nat.one_le_two_pow
    have := Int.ofNat_le.2 h
    rw [Int.natCast_pow] at this
    exact this
  refine aw (by rw [hp2]; omega) (by rw [hp2]; omega) ?_
  generalize hL : (1 : Int) * 2 ^ (min ((g.props.length : Int)).toNat (IntKind.bits .i64)) = L
  rw [hp2] at hL
  have hck : checkS g = (edgesGo g.states L none g.edges && g.sets.all (risingFrom g.states none)) := by
    simp [checkS, hnm, h1, h2, hin, hL]
  clear hL
  have hle := hv.le
  have hls := hv.ls
  obtain ⟨ea, ec, rfl, hec, hedges⟩ := hv.edges
  obtain ⟨sa, sc, rfl, hsc, hsets⟩ := hv.sets
  refine ld agree (Own.at_ (xs := [.slice ea g.edges.length ec]) (k3.own m1 id) rfl) (by rfl) ?_
  refine loop agree (σ := Nat) (fun i => [(1, pt p 0), (3, .int .i64 L), (35, .slice ea g.edges.length ec), (36, .int .i64 g.edges.length), (37, .int .i64 i)])
    (fun i w' => Kp w1 w' ∧ i ≤ g.edges.length ∧ edgesGo g.states L none g.edges = edgesGo g.states L (if i = 0 then none else g.edges[i-1]?) (g.edges.drop i)) (fun i => g.edges.length - i) 0
    ⟨rfl, rfl, rfl, rfl, rfl, trivial⟩ ⟨k3, by omega, by simp⟩ ?_
  rintro i e0 w4 ⟨k4, hi, hr⟩
  refine sp (fun h3 => ?_) (fun h3 => ?_)
  · have hi' : i < g.edges.length := by omega
    rw [List.drop_eq_getElem_cons hi'] at hr
    obtain ⟨b, o, rfl, hlo, hhi, cs, hcs, hrd, rfl, hwf⟩ := hedges i g.edges[i] (by simp)
    refine ne ⟨by omega, h3⟩ ?_
    refine ld agree (v := g.edges[i].val) ((k1.trans k4).range hrd id) rfl ?_
    refine nd fun q w5 e5 s5 k5 m5 => ?_
    refine st agree (cs := [.int .i64 0, .int .i64 0, .int .u16 0, .int .u16 0]) m5 rfl (Nat.le_refl 4) rfl ?_
    intro w6 s6 k6 m6
    have m6 : Own w6 q 52 g.edges[i].cells := m6
    have k46 : Kp w4 w6 := k5.new e5 k6
    have A : ∀ W, Kp w6 W → Own W q 52 g.edges[i].cells := fun W h => h.heap m6 id
    have B : ∀ W, Kp w6 W → Own W p 28 [.slice pa g.props.length pc, .int .i64 g.states, iv, .slice (some ⟨b, o, none⟩) g.edges.length ec, .slice sa g.sets.length sc] := fun W h => h.heap (k46.heap (k4.heap m1 id) id) id
    have bad : ∀ W, Kp w6 W → edgesGo g.states L none g.edges = false → (Value.int .i64 100 = .int .i64 (errS (checkS g)) ∧ Kp w W) := fun W h hf => ret0 W (k4.trans (k46.trans h)) (by rw [hck, hf]; rfl)
    refine drawn0 agree mixed 53 (by kernel_rfl) (fun _ => False) ?_
    conv => whnf
    refine ldk agree rfl rfl (fun W h _ => Own.at_ (xs := [.int .i64 g.edges[i].frm]) (A W h) rfl) (by rfl) fun _ => ?_
    conv => whnf
    refine bsk rfl rfl rfl rfl (by rfl) (by decide) fun q1 D1 hD1 => ?_
    conv => whnf
    refine ldk agree rfl rfl (fun W h _ => Own.at_ (xs := [.int .i64 g.states]) (B W h) rfl) (by rfl) fun _ => ?_
    conv => whnf
    cases hb1 : risingFrom g.states none [g.edges[i].frm] with
    | false =>
      refine callk (v := .bool false) rfl rfl rfl callIsRow (fun W h1 h2 => by
        have := isRow_c (n := g.states) (xs := [g.edges[i].frm]) (lo := q1) (hi := q1 + 1) (row1 (hD1 W (h2 2 (by kernel_rfl))).1 rfl rfl (Nat.le_refl 1) (Nat.le_refl _) (by omega)) (by simp)
        rw [hb1] at this
        exact this) fun _ => ?_
      conv => whnf
      intro W h _
      exact bad W h (by rw [hr]; simp [edgesGo, hb1])
    | true =>
      refine callk (v := .bool true) rfl rfl rfl callIsRow (fun W h1 h2 => by
        have := isRow_c (n := g.states) (xs := [g.edges[i].frm]) (lo := q1) (hi := q1 + 1) (row1 (hD1 W (h2 2 (by kernel_rfl))).1 rfl rfl (Nat.le_refl 1) (Nat.le_refl _) (by omega)) (by simp)
        rw [hb1] at this
        exact this) fun _ => ?_
      conv => whnf
      refine ldk agree rfl rfl (fun W h _ => Own.at_ (xs := [.int .i64 g.edges[i].to]) (A W h) rfl) (by rfl) fun _ => ?_
      conv => whnf
      refine bsk rfl rfl rfl rfl (by rfl) (by decide) fun q2 D2 hD2 => ?_
      conv => whnf
      refine ldk agree rfl rfl (fun W h _ => Own.at_ (xs := [.int .i64 g.states]) (B W h) rfl) (by rfl) fun _ => ?_
      conv => whnf
      cases hb2 : risingFrom g.states none [g.edges[i].to] with
      | false =>
        refine callk (v := .bool false) rfl rfl rfl callIsRow (fun W h1 h2 => by
          have := isRow_c (n := g.states) (xs := [g.edges[i].to]) (lo := q2) (hi := q2 + 1) (row1 (hD2 W (h2 10 (by kernel_rfl))).1 rfl rfl (Nat.le_refl 1) (Nat.le_refl _) (by omega)) (by simp)
          rw [hb2] at this
          exact this) fun _ => ?_
        conv => whnf
        intro W h _
        exact bad W h (by rw [hr]; simp [edgesGo, hb2])
      | true =>
        refine callk (v := .bool true) rfl rfl rfl callIsRow (fun W h1 h2 => by
          have := isRow_c (n := g.states) (xs := [g.edges[i].to]) (lo := q2) (hi := q2 + 1) (row1 (hD2 W (h2 10 (by kernel_rfl))).1 rfl rfl (Nat.le_refl 1) (Nat.le_refl _) (by omega)) (by simp)
          rw [hb2] at this
          exact this) fun _ => ?_
        conv => whnf
        refine ldk agree rfl rfl (fun W h _ => Own.at_ (xs := [.int .u16 g.edges[i].must]) (A W h) rfl) (by rfl) fun _ => ?_
        conv => whnf
        refine aw (by have := hwf.1; omega) (by have := hwf.2.1; omega) ?_
        conv => whnf
        refine sp (fun h5 => ?_) (fun h5 => ?_)
        · conv => whnf
          intro W h _
          exact bad W h (by rw [hr]; simp [edgesGo, h5])
        conv => whnf
        refine ldk agree rfl rfl (fun W h _ => Own.at_ (xs := [.int .u16 g.edges[i].no]) (A W h) rfl) (by rfl) fun _ => ?_
        conv => whnf
        refine aw (by have := hwf.2.2.1; omega) (by have := hwf.2.2.2; omega) ?_
        conv => whnf
        refine sp (fun h6 => ?_) (fun h6 => ?_)
        · conv => whnf
          intro W h _
          exact bad W h (by rw [hr]; simp [edgesGo, h6])
        conv => whnf
        refine ldk agree rfl rfl (fun W h _ => Own.at_ (xs := [.int .u16 g.edges[i].must]) (A W h) rfl) (by rfl) fun _ => ?_
        conv => whnf
        refine ldk agree rfl rfl (fun W h _ => Own.at_ (xs := [.int .u16 g.edges[i].no]) (A W h) rfl) (by rfl) fun _ => ?_
        conv => whnf
        refine ar ?_
        conv => whnf
        refine sp (fun h7 => ?_) (fun h7 => ?_)
        · conv => whnf
          intro W h _
          exact bad W h (by rw [hr]; simp [edgesGo, h7])
        conv => whnf
        have step : ∀ W, Kp w6 W → (match (if i = 0 then none else g.edges[i-1]?) with | some y => decide (0 ≤ orderS y g.edges[i]) | none => false) = false → ∀ e',
            Has e' [(1, pt p 0), (3, .int .i64 L), (35, .slice (some ⟨b, o, none⟩) g.edges.length ec), (36, .int .i64 g.edges.length), (37, .int .i64 (i + 1 : Nat))] → e' mark = undef →
            Again (σ := Nat) (fun i => [(1, pt p 0), (3, .int .i64 L), (35, .slice (some ⟨b, o, none⟩) g.edges.length ec), (36, .int .i64 g.edges.length), (37, .int .i64 i)])
              (fun i w' => Kp w1 w' ∧ i ≤ g.edges.length ∧ edgesGo g.states L none g.edges = edgesGo g.states L (if i = 0 then none else g.edges[i-1]?) (g.edges.drop i)) (fun i => g.edges.length - i) i e' W := fun W h hlast e' he hmk =>
          again (hm := hmk) (i + 1) he ⟨k4.trans (k46.trans h), by omega, by
            rw [hr]
            simp only [edgesGo, hb1, hb2, hlast, Bool.true_and, Bool.not_false]
            rw [decide_eq_false h5, decide_eq_false h6, decide_eq_false h7]
            simp [List.getElem?_eq_getElem hi']⟩ (by omega)
        refine sp (fun h8 => ?_) (fun h8 => ?_)
        · conv => whnf
          refine ldk agree rfl rfl (fun W h _ => Own.at_ (xs := [.slice (some ⟨b, o, none⟩) g.edges.length ec]) (B W h) rfl) (by rfl) fun _ => ?_
          conv => whnf
          refine aw (by omega) (by omega) ?_
          conv => whnf
          refine ne ⟨by omega, by omega⟩ ?_
          conv => whnf
          obtain ⟨b', o', hb', -, -, cs', hcs', hrd', rfl, hwf'⟩ := hedges (i - 1) g.edges[i-1] (by simp)
          cases hb'
          refine ldk agree (v := g.edges[i-1].val) rfl rfl (fun W h _ => (k1.trans (k4.trans (k46.trans h))).range (by have := hrd'; rw [show (i - 1) * 4 = ((i : Int) - 1).toNat * ti52.size by show _ = ((i : Int) - 1).toNat * 4; omega] at this; exact this) id) (by rfl) fun _ => ?_
          conv => whnf
          refine ldk agree (v := g.edges[i].val) rfl rfl (fun W h _ => Own.at_ (xs := g.edges[i].cells) (A W h) rfl) (by rfl) fun _ => ?_
          conv => whnf
          refine callk (v := .int .i64 (orderS g.edges[i-1] g.edges[i])) rfl rfl rfl callOrder (fun W _ _ => by
            have := order_c W g.edges[i-1] g.edges[i]
            exact this) fun _ => ?_
          conv => whnf
          have h0 : i ≠ 0 := by omega
          refine sp (fun h9 => ?_) (fun h9 => ?_)
          · conv => whnf
            intro W h _
            exact bad W h (by rw [hr, if_neg h0, List.getElem?_eq_getElem (by omega)]; simp [edgesGo, h9])
          · conv => whnf
            intro W h _
            refine aw (by omega) (by omega) ?_
            exact step W h (by rw [if_neg h0, List.getElem?_eq_getElem (by omega)]; simpa using h9) _ ⟨rfl, rfl, rfl, rfl, rfl, trivial⟩ rfl
        · conv => whnf
          intro W h _
          refine aw (by omega) (by omega) ?_
          exact step W h (by rw [if_pos (by omega)]) _ ⟨rfl, rfl, rfl, rfl, rfl, trivial⟩ rfl
  · rw [List.drop_eq_nil_of_le (by omega)] at hr
    have hr : edgesGo g.states L none g.edges = true := hr
    refine ld agree (Own.at_ (xs := [.slice sa g.sets.length sc]) (k4.own m1 id) rfl) (by rfl) ?_
    refine loop agree (σ := Nat) (fun i => [(1, pt p 0), (97, .slice sa g.sets.length sc), (98, .int .i64 g.sets.length), (99, .int .i64 i)])
      (fun i w' => Kp w1 w' ∧ i ≤ g.sets.length ∧ (g.sets.take i).all (risingFrom g.states none) = true) (fun i => g.sets.length - i) 0
      ⟨rfl, rfl, rfl, rfl, trivial⟩ ⟨k4, by omega, by simp⟩ ?_
    rintro j e0 w5 ⟨k5, hj, hall⟩
    refine sp (fun h4 => ?_) (fun h4 => ?_)
    · have hj' : j < g.sets.length := by omega
      obtain ⟨b, o, rfl, hlo, hhi, cs, hcs, hrd, u, rfl, hu, hul⟩ := hsets j g.sets[j] (by simp)
      refine ne ⟨by omega, h4⟩ ?_
      refine ld agree ((k1.trans k5).range hrd id) (by rfl) ?_
      refine ld agree (Own.at_ (xs := [.int .i64 g.states]) (k5.own m1 id) rfl) (by rfl) ?_
      cases hb : risingFrom g.states none g.sets[j] with
      | false =>
        refine cl callIsRow (rowc w5 u g.sets[j] k5 hu hul _ hb) ?_
        rintro _ w6 ⟨rfl, k6⟩
        refine ret0 _ (k5.trans k6) ?_
        rw [hck, hr, Bool.true_and, List.all_eq_false]
        exact ⟨g.sets[j], by simp, by simp [hb]⟩
      | true =>
        refine cl callIsRow (rowc w5 u g.sets[j] k5 hu hul _ hb) ?_
        rintro _ w6 ⟨rfl, k6⟩
        refine aw (by omega) (by omega) ?_
        refine again (j + 1) ⟨rfl, rfl, rfl, rfl, trivial⟩ ⟨k5.trans k6, by omega, ?_⟩ (by omega)
        rw [show g.sets.take (j + 1) = g.sets.take j ++ [g.sets[j]] by simp, List.all_append, hall]
        simp [hb]
    · have ht : g.sets.take j = g.sets := List.take_of_length_le (by omega)
      rw [ht] at hall
      exact ⟨by rw [hck, hr, hall]; rfl, k1.trans k5⟩
theorem callCheckG : callable Proofs.Try.prog 13 = true := by kernel_rfl
end Go.Au
