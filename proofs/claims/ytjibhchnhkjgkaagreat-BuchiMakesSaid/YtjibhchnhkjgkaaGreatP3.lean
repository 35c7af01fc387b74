/- Own text of this workplace: a part of the proofs of this place's statements. -/
import Derived.Test.YtjibhchnhkjgkaaGreatP0
import Derived.Test.YtjibhchnhkjgkaaGreatG
import Derived.Test.YtjibhchnhkjgkaaGreatP2
set_option maxRecDepth 40000
set_option linter.unusedVariables false
set_option linter.unusedSimpArgs false
set_option linter.unusedSectionVars false
namespace Go.Au
open Go.Proofs.Tryz
open Go Go.RowKit Go.MapKept
open Go.Maps (Keyed)
def Hk (e : Edge) (l : Int) : Bool := decide (bits .and .u16 l e.must = e.must) && decide (bits .and .u16 l e.no = 0)
theorem AcA (w : World) (a : Edge) (l : Int) : Calls prog 123 [a.val,.int .u16 l].toArray w (Bg fun r w' => r = .bool (Hk a l) ∧ Kp w w') := by
 refine call Aa func123 rfl ntmps123 (by kernel_rfl) ?_
 refine nd fun p w1 e1 s1 k1 m1 => ?_
 have m1 : Own w1 p 67 a.cells := m1
 refine ld Aa (Own.at_ (xs := [.int .u16 a.must]) m1 rfl) (by rfl) ?_
 refine ar ?_
 refine ld Aa (Own.at_ (xs := [.int .u16 a.must]) m1 rfl) (by rfl) ?_
 refine sp (fun h => ?_) (fun h => ?_)
 · refine ld Aa (Own.at_ (xs := [.int .u16 a.no]) m1 rfl) (by rfl) ?_
   refine ar ?_
   refine sp (fun h2 => ?_) (fun h2 => ?_)
   · exact ⟨congrArg Value.bool (by simp [Hk,h,h2]),k1⟩
   · exact ⟨congrArg Value.bool (by simp [Hk,h,h2]),k1⟩
 · exact ⟨congrArg Value.bool (by simp [Hk,h]),k1⟩
theorem AaA : Af prog 123 = true := by kernel_rfl
def Edge.wf (e : Edge) : Prop := 0 ≤ e.must ∧ e.must < 65536 ∧ 0 ≤ e.no ∧ e.no < 65536
abbrev C9 := RowE (fun _ cs (x : Edge) => cs = x.cells ∧ x.wf) 4
abbrev H6 (lo hi : Nat) := RowE (fun w cs (xs : List Int) => ∃ u,cs = [u] ∧ Ef lo hi w u xs ∧ xs.length < 4611686018427387904) 1 lo hi
structure General where
 props : List ByteArray
 states : Int
 init : List Int
 edges : List Edge
 sets : List (List Int)
structure Buchi where
 props : List ByteArray
 states : Int
 init : List Int
 edges : List Edge
 final : List Int
structure GenV (lo hi : Nat) (w : World) (p i e s : Value) (g : General) : Prop where
 props : Ib lo hi w p g.props
 init : Ef lo hi w i g.init
 edges : C9 lo hi w e g.edges
 sets : H6 lo hi w s g.sets
 lp : g.props.length < 4611686018427387904
 li : g.init.length < 4611686018427387904
 le : g.edges.length < 4611686018427387904
 ls : g.sets.length < 4611686018427387904
def Ay (n : Int) (letters : Int) : Option Edge → List Edge → Bool
 | _,[] => true
 | p,x :: r => Ak n none [x.frm] && (Ak n none [x.to] && (!decide (letters ≤ x.must) && (!decide (letters ≤ x.no) && (!decide (bits .and .u16 x.must x.no ≠ 0) && (!(match p with | some y => decide (0 ≤ Ci y x) | none => false) && Ay n letters (some x) r)))))
def Al (g : General) : Bool := Bz g.props && !decide (g.states < 0) && !decide (65536 < g.states) && Ak g.states none g.init && Ay g.states (2 ^ g.props.length) none g.edges && g.sets.all (Ak g.states none)
def Kb (b : Bool) : Int := if b then 0 else 100
theorem Q1 : Af prog 75 = true := by kernel_rfl
theorem Ec : Af prog 76 = true := by kernel_rfl
set_option maxHeartbeats 4000000 in
theorem R2 {w : World} {lo hi : Nat} {pv iv ev sv : Value} {g : General} (hv : GenV lo hi w pv iv ev sv g) :
 Calls prog 28 [.agg #[pv,.int .i64 g.states,iv,ev,sv]].toArray w (Bg fun r w' => r = .int .i64 (Kb (Al g)) ∧ Kp w w') := by
 refine call Aa func28 rfl ntmps28 (by kernel_rfl) ?_
 refine nd fun p w1 e1 s1 k1 m1 => ?_
 have m1 : Own w1 p 27 [pv,.int .i64 g.states,iv,ev,sv] := m1
 have ret0 : ∀ W,Kp w1 W → Al g = false → (Value.int .i64 100 = .int .i64 (Kb (Al g)) ∧ Kp w W) := fun W h hf => ⟨by rw [hf]; rfl,k1.trans h⟩
 have rowc : ∀ W u xs,Kp w1 W → Ef lo hi w u xs → xs.length < 4611686018427387904 → ∀ b,Ak g.states none xs = b → Calls prog 76 [u,.int .i64 g.states].toArray W (Bg fun r w' => r = .bool b ∧ Kp W w') := fun W u xs h hu hl b hb => by
  subst hb
  exact Lg (hu.chg (k1.trans h) (fun _ _ _ h => h) (fun _ _ h => h)) hl
 refine ld Aa (Own.at_ (xs := [pv]) m1 rfl) (by rfl) ?_
 cases hnm : Bz g.props with
 | false =>
  refine cl (R := fun r w' => r = .bool false ∧ Kp w1 w') Q1 (by have := Qk (hv.props.chg k1 (fun _ _ _ h => h) (fun _ _ h => h)) hv.lp; rw [hnm] at this; exact this) ?_
  rintro _ w2 ⟨rfl,k2⟩
  exact ret0 _ k2 (by simp [Al,hnm])
 | true =>
 refine cl (R := fun r w' => r = .bool true ∧ Kp w1 w') Q1 (by have := Qk (hv.props.chg k1 (fun _ _ _ h => h) (fun _ _ h => h)) hv.lp; rw [hnm] at this; exact this) ?_
 rintro _ w2 ⟨rfl,k2⟩
 have hlp : g.props.length ≤ 8 := by
  unfold Bz at hnm
  rw [Bool.and_eq_true] at hnm
  exact of_decide_eq_true hnm.2
 refine ld Aa (Own.at_ (xs := [.int .i64 g.states]) (k2.own m1 id) rfl) (by rfl) ?_
 refine sp (fun h1 => ?_) (fun h1 => ?_)
 · exact ret0 _ k2 (by simp [Al,h1])
 refine ld Aa (Own.at_ (xs := [.int .i64 g.states]) (k2.own m1 id) rfl) (by rfl) ?_
 refine sp (fun h2 => ?_) (fun h2 => ?_)
 · exact ret0 _ k2 (by simp [Al,h2])
 refine ld Aa (Own.at_ (xs := [iv]) (k2.own m1 id) rfl) (by rfl) ?_
 refine ld Aa (Own.at_ (xs := [.int .i64 g.states]) (k2.own m1 id) rfl) (by rfl) ?_
 cases hin : Ak g.states none g.init with
 | false =>
  refine cl Ec (rowc w2 iv g.init k2 hv.init hv.li _ hin) ?_
  rintro _ w3 ⟨rfl,k3⟩
  exact ret0 _ (k2.trans k3) (by simp [Al,hin])
 | true =>
 refine cl Ec (rowc w2 iv g.init k2 hv.init hv.li _ hin) ?_
 rintro _ w3 ⟨rfl,k3⟩
 replace k3 := k2.trans k3
 obtain ⟨pa,pc,rfl,hpc,hprops⟩ := hv.props
 refine ld Aa (Own.at_ (xs := [.slice pa g.props.length pc]) (k3.own m1 id) rfl) (by rfl) ?_
 refine ne (by omega) ?_
 have hp2 : (1 : Int) * 2 ^ (min ((g.props.length : Int)).toNat (IntKind.bits .i64)) = 2 ^ g.props.length := by
  rw [Int.toNat_natCast,Nat.min_eq_left (by simp only [IntKind.bits]; omega),Int.one_mul]
 have hb2 : (2 : Int) ^ g.props.length ≤ 256 := by
  have h : (2 : Nat) ^ g.props.length ≤ 2 ^ 8 := Nat.pow_le_pow_right (by decide) hlp
  have := Int.ofNat_le.2 h
  rw [Int.natCast_pow] at this
  exact this
 have hb1 : (1 : Int) ≤ 2 ^ g.props.length := by
  have h : 1 ≤ (2 : Nat) ^ g.props.length := Nat.one_le_two_pow
  have := Int.ofNat_le.2 h
  rw [Int.natCast_pow] at this
  exact this
 refine aw (by rw [hp2]; omega) (by rw [hp2]; omega) ?_
 generalize hL : (1 : Int) * 2 ^ (min ((g.props.length : Int)).toNat (IntKind.bits .i64)) = L
 rw [hp2] at hL
 have hck : Al g = (Ay g.states L none g.edges && g.sets.all (Ak g.states none)) := by
  simp [Al,hnm,h1,h2,hin,hL]
 clear hL
 have hle := hv.le
 have hls := hv.ls
 obtain ⟨ea,ec,rfl,hec,hedges⟩ := hv.edges
 obtain ⟨sa,sc,rfl,hsc,hsets⟩ := hv.sets
 refine ld Aa (Own.at_ (xs := [.slice ea g.edges.length ec]) (k3.own m1 id) rfl) (by rfl) ?_
 refine loop Aa (σ := Nat) (fun i => [(1,pt p 0),(3,.int .i64 L),(35,.slice ea g.edges.length ec),(36,.int .i64 g.edges.length),(37,.int .i64 i)])
  (fun i w' => Kp w1 w' ∧ i ≤ g.edges.length ∧ Ay g.states L none g.edges = Ay g.states L (if i = 0 then none else g.edges[i-1]?) (g.edges.drop i)) (fun i => g.edges.length - i) 0
  ⟨rfl,rfl,rfl,rfl,rfl,trivial⟩ ⟨k3,by omega,by simp⟩ ?_
 rintro i e0 w4 ⟨k4,hi,hr⟩
 refine sp (fun h3 => ?_) (fun h3 => ?_)
 · have hi' : i < g.edges.length := by omega
   rw [List.drop_eq_getElem_cons hi'] at hr
   obtain ⟨b,o,rfl,hlo,hhi,cs,hcs,hrd,rfl,hwf⟩ := hedges i g.edges[i] (by simp)
   refine ne ⟨by omega,h3⟩ ?_
   refine ld Aa (v := g.edges[i].val) ((k1.trans k4).range hrd id) rfl ?_
   refine nd fun q w5 e5 s5 k5 m5 => ?_
   refine st Aa (cs := [.int .i64 0,.int .i64 0,.int .u16 0,.int .u16 0]) m5 rfl (Nat.le_refl 4) rfl ?_
   intro w6 s6 k6 m6
   have m6 : Own w6 q 67 g.edges[i].cells := m6
   have k46 : Kp w4 w6 := k5.new e5 k6
   have A : ∀ W,Kp w6 W → Own W q 67 g.edges[i].cells := fun W h => h.heap m6 id
   have B : ∀ W,Kp w6 W → Own W p 27 [.slice pa g.props.length pc,.int .i64 g.states,iv,.slice (some ⟨b,o,none⟩) g.edges.length ec,.slice sa g.sets.length sc] := fun W h => h.heap (k46.heap (k4.heap m1 id) id) id
   have bad : ∀ W,Kp w6 W → Ay g.states L none g.edges = false → (Value.int .i64 100 = .int .i64 (Kb (Al g)) ∧ Kp w W) := fun W h hf => ret0 W (k4.trans (k46.trans h)) (by rw [hck,hf]; rfl)
   refine Ax Aa mixed 53 (by kernel_rfl) (fun _ => False) ?_
   conv => whnf
   refine A7 Aa rfl rfl (fun W h _ => Own.at_ (xs := [.int .i64 g.edges[i].frm]) (A W h) rfl) (by rfl) fun _ => ?_
   conv => whnf
   refine bsk rfl rfl rfl rfl (by rfl) (by decide) fun q1 D1 hD1 => ?_
   conv => whnf
   refine A7 Aa rfl rfl (fun W h _ => Own.at_ (xs := [.int .i64 g.states]) (B W h) rfl) (by rfl) fun _ => ?_
   conv => whnf
   cases hb1 : Ak g.states none [g.edges[i].frm] with
   | false =>
    refine Co (v := .bool false) rfl rfl rfl Ec (fun W h1 h2 => by
     have := Lg (n := g.states) (xs := [g.edges[i].frm]) (lo := q1) (hi := q1 + 1) (Zj (hD1 W (h2 2 (by kernel_rfl))).1 rfl rfl (Nat.le_refl 1) (Nat.le_refl _) (by omega)) (by simp)
     rw [hb1] at this
     exact this) fun _ => ?_
    conv => whnf
    intro W h _
    exact bad W h (by rw [hr]; simp [Ay,hb1])
   | true =>
    refine Co (v := .bool true) rfl rfl rfl Ec (fun W h1 h2 => by
     have := Lg (n := g.states) (xs := [g.edges[i].frm]) (lo := q1) (hi := q1 + 1) (Zj (hD1 W (h2 2 (by kernel_rfl))).1 rfl rfl (Nat.le_refl 1) (Nat.le_refl _) (by omega)) (by simp)
     rw [hb1] at this
     exact this) fun _ => ?_
    conv => whnf
    refine A7 Aa rfl rfl (fun W h _ => Own.at_ (xs := [.int .i64 g.edges[i].to]) (A W h) rfl) (by rfl) fun _ => ?_
    conv => whnf
    refine bsk rfl rfl rfl rfl (by rfl) (by decide) fun q2 D2 hD2 => ?_
    conv => whnf
    refine A7 Aa rfl rfl (fun W h _ => Own.at_ (xs := [.int .i64 g.states]) (B W h) rfl) (by rfl) fun _ => ?_
    conv => whnf
    cases hb2 : Ak g.states none [g.edges[i].to] with
    | false =>
     refine Co (v := .bool false) rfl rfl rfl Ec (fun W h1 h2 => by
      have := Lg (n := g.states) (xs := [g.edges[i].to]) (lo := q2) (hi := q2 + 1) (Zj (hD2 W (h2 10 (by kernel_rfl))).1 rfl rfl (Nat.le_refl 1) (Nat.le_refl _) (by omega)) (by simp)
      rw [hb2] at this
      exact this) fun _ => ?_
     conv => whnf
     intro W h _
     exact bad W h (by rw [hr]; simp [Ay,hb2])
    | true =>
     refine Co (v := .bool true) rfl rfl rfl Ec (fun W h1 h2 => by
      have := Lg (n := g.states) (xs := [g.edges[i].to]) (lo := q2) (hi := q2 + 1) (Zj (hD2 W (h2 10 (by kernel_rfl))).1 rfl rfl (Nat.le_refl 1) (Nat.le_refl _) (by omega)) (by simp)
      rw [hb2] at this
      exact this) fun _ => ?_
     conv => whnf
     refine A7 Aa rfl rfl (fun W h _ => Own.at_ (xs := [.int .u16 g.edges[i].must]) (A W h) rfl) (by rfl) fun _ => ?_
     conv => whnf
     refine aw (by have := hwf.1; omega) (by have := hwf.2.1; omega) ?_
     conv => whnf
     refine sp (fun h5 => ?_) (fun h5 => ?_)
     · conv => whnf
       intro W h _
       exact bad W h (by rw [hr]; simp [Ay,h5])
     conv => whnf
     refine A7 Aa rfl rfl (fun W h _ => Own.at_ (xs := [.int .u16 g.edges[i].no]) (A W h) rfl) (by rfl) fun _ => ?_
     conv => whnf
     refine aw (by have := hwf.2.2.1; omega) (by have := hwf.2.2.2; omega) ?_
     conv => whnf
     refine sp (fun h6 => ?_) (fun h6 => ?_)
     · conv => whnf
       intro W h _
       exact bad W h (by rw [hr]; simp [Ay,h6])
     conv => whnf
     refine A7 Aa rfl rfl (fun W h _ => Own.at_ (xs := [.int .u16 g.edges[i].must]) (A W h) rfl) (by rfl) fun _ => ?_
     conv => whnf
     refine A7 Aa rfl rfl (fun W h _ => Own.at_ (xs := [.int .u16 g.edges[i].no]) (A W h) rfl) (by rfl) fun _ => ?_
     conv => whnf
     refine ar ?_
     conv => whnf
     refine sp (fun h7 => ?_) (fun h7 => ?_)
     · conv => whnf
       intro W h _
       exact bad W h (by rw [hr]; simp [Ay,h7])
     conv => whnf
     have step : ∀ W,Kp w6 W → (match (if i = 0 then none else g.edges[i-1]?) with | some y => decide (0 ≤ Ci y g.edges[i]) | none => false) = false → ∀ e',
      Has e' [(1,pt p 0),(3,.int .i64 L),(35,.slice (some ⟨b,o,none⟩) g.edges.length ec),(36,.int .i64 g.edges.length),(37,.int .i64 (i + 1 : Nat))] → e' mark = undef →
      Again (σ := Nat) (fun i => [(1,pt p 0),(3,.int .i64 L),(35,.slice (some ⟨b,o,none⟩) g.edges.length ec),(36,.int .i64 g.edges.length),(37,.int .i64 i)])
       (fun i w' => Kp w1 w' ∧ i ≤ g.edges.length ∧ Ay g.states L none g.edges = Ay g.states L (if i = 0 then none else g.edges[i-1]?) (g.edges.drop i)) (fun i => g.edges.length - i) i e' W := fun W h hlast e' he hmk =>
      again (hm := hmk) (i + 1) he ⟨k4.trans (k46.trans h),by omega,by
       rw [hr]
       simp only [Ay,hb1,hb2,hlast,Bool.true_and,Bool.not_false]
       rw [decide_eq_false h5,decide_eq_false h6,decide_eq_false h7]
       simp [List.getElem?_eq_getElem hi']⟩ (by omega)
     refine sp (fun h8 => ?_) (fun h8 => ?_)
     · conv => whnf
       refine A7 Aa rfl rfl (fun W h _ => Own.at_ (xs := [.slice (some ⟨b,o,none⟩) g.edges.length ec]) (B W h) rfl) (by rfl) fun _ => ?_
       conv => whnf
       refine aw (by omega) (by omega) ?_
       conv => whnf
       refine ne ⟨by omega,by omega⟩ ?_
       conv => whnf
       obtain ⟨b',o',hb',-,-,cs',hcs',hrd',rfl,hwf'⟩ := hedges (i - 1) g.edges[i-1] (by simp)
       cases hb'
       refine A7 Aa (v := g.edges[i-1].val) rfl rfl (fun W h _ => (k1.trans (k4.trans (k46.trans h))).range (by have := hrd'; rw [show (i - 1) * 4 = ((i : Int) - 1).toNat * ti67.size by show _ = ((i : Int) - 1).toNat * 4; omega] at this; exact this) id) (by rfl) fun _ => ?_
       conv => whnf
       refine A7 Aa (v := g.edges[i].val) rfl rfl (fun W h _ => Own.at_ (xs := g.edges[i].cells) (A W h) rfl) (by rfl) fun _ => ?_
       conv => whnf
       refine Co (v := .int .i64 (Ci g.edges[i-1] g.edges[i])) rfl rfl rfl Q0 (fun W _ _ => by
        have := Wr W g.edges[i-1] g.edges[i]
        exact this) fun _ => ?_
       conv => whnf
       have h0 : i ≠ 0 := by omega
       refine sp (fun h9 => ?_) (fun h9 => ?_)
       · conv => whnf
         intro W h _
         exact bad W h (by rw [hr,if_neg h0,List.getElem?_eq_getElem (by omega)]; simp [Ay,h9])
       · conv => whnf
         intro W h _
         refine aw (by omega) (by omega) ?_
         exact step W h (by rw [if_neg h0,List.getElem?_eq_getElem (by omega)]; simpa using h9) _ ⟨rfl,rfl,rfl,rfl,rfl,trivial⟩ rfl
     · conv => whnf
       intro W h _
       refine aw (by omega) (by omega) ?_
       exact step W h (by rw [if_pos (by omega)]) _ ⟨rfl,rfl,rfl,rfl,rfl,trivial⟩ rfl
 · rw [List.drop_eq_nil_of_le (by omega)] at hr
   have hr : Ay g.states L none g.edges = true := hr
   refine ld Aa (Own.at_ (xs := [.slice sa g.sets.length sc]) (k4.own m1 id) rfl) (by rfl) ?_
   refine loop Aa (σ := Nat) (fun i => [(1,pt p 0),(97,.slice sa g.sets.length sc),(98,.int .i64 g.sets.length),(99,.int .i64 i)])
    (fun i w' => Kp w1 w' ∧ i ≤ g.sets.length ∧ (g.sets.take i).all (Ak g.states none) = true) (fun i => g.sets.length - i) 0
    ⟨rfl,rfl,rfl,rfl,trivial⟩ ⟨k4,by omega,by simp⟩ ?_
   rintro j e0 w5 ⟨k5,hj,hall⟩
   refine sp (fun h4 => ?_) (fun h4 => ?_)
   · have hj' : j < g.sets.length := by omega
     obtain ⟨b,o,rfl,hlo,hhi,cs,hcs,hrd,u,rfl,hu,hul⟩ := hsets j g.sets[j] (by simp)
     refine ne ⟨by omega,h4⟩ ?_
     refine ld Aa ((k1.trans k5).range hrd id) (by rfl) ?_
     refine ld Aa (Own.at_ (xs := [.int .i64 g.states]) (k5.own m1 id) rfl) (by rfl) ?_
     cases hb : Ak g.states none g.sets[j] with
     | false =>
      refine cl Ec (rowc w5 u g.sets[j] k5 hu hul _ hb) ?_
      rintro _ w6 ⟨rfl,k6⟩
      refine ret0 _ (k5.trans k6) ?_
      rw [hck,hr,Bool.true_and,List.all_eq_false]
      exact ⟨g.sets[j],by simp,by simp [hb]⟩
     | true =>
      refine cl Ec (rowc w5 u g.sets[j] k5 hu hul _ hb) ?_
      rintro _ w6 ⟨rfl,k6⟩
      refine aw (by omega) (by omega) ?_
      refine again (j + 1) ⟨rfl,rfl,rfl,rfl,trivial⟩ ⟨k5.trans k6,by omega,?_⟩ (by omega)
      rw [show g.sets.take (j + 1) = g.sets.take j ++ [g.sets[j]] by simp,List.all_append,hall]
      simp [hb]
   · have ht : g.sets.take j = g.sets := List.take_of_length_le (by omega)
     rw [ht] at hall
     exact ⟨by rw [hck,hr,hall]; rfl,k1.trans k5⟩
theorem Ki : Af prog 28 = true := by kernel_rfl
structure BuchiV (lo hi : Nat) (w : World) (p i e f : Value) (g : Buchi) : Prop where
 props : Ib lo hi w p g.props
 init : Ef lo hi w i g.init
 edges : C9 lo hi w e g.edges
 final : Ef lo hi w f g.final
 lp : g.props.length < 4611686018427387904
 li : g.init.length < 4611686018427387904
 le : g.edges.length < 4611686018427387904
 lf : g.final.length < 4611686018427387904
def Buchi.general (b : Buchi) : General := { props := b.props,states := b.states,init := b.init,edges := b.edges,sets := [b.final] }
theorem Qo (w : World) (a1 a2 a3 a4 : Option Addr) (l1 c1 l2 c2 l3 c3 l4 c4 : Nat) (n : Int) :
 Calls prog 74 [.agg #[.slice a1 l1 c1,.int .i64 n,.slice a2 l2 c2,.slice a3 l3 c3,.slice a4 l4 c4]].toArray w
  (Bg fun r w' => Kp w w' ∧ ∃ q,w.heap.size ≤ q ∧ q < w'.heap.size ∧ w'.heap[q]? = some (.cells [.slice a4 l4 c4].toArray 23 (0,0)) ∧ r = .agg #[.slice a1 l1 c1,.int .i64 n,.slice a2 l2 c2,.slice a3 l3 c3,.slice (some ⟨q,0,none⟩) 1 1]) := by
 refine call Aa func74 rfl ntmps74 (by kernel_rfl) ?_
 refine nd fun p w1 e1 s1 k1 m1 => ?_
 have m1 : Own w1 p 29 [.slice a1 l1 c1,.int .i64 n,.slice a2 l2 c2,.slice a3 l3 c3,.slice a4 l4 c4] := m1
 refine nd fun q w2 e2 s2 k2 m2 => ?_
 have m2 : Own w2 q 27 [.slice none 0 0,.int .i64 0,.slice none 0 0,.slice none 0 0,.slice none 0 0] := m2
 have m1 := k2.own m1 id
 refine ld Aa (Own.at_ (xs := [.slice a1 l1 c1]) m1 rfl) (by rfl) ?_
 refine ld Aa (Own.at_ (xs := [.int .i64 n]) m1 rfl) (by rfl) ?_
 refine ld Aa (Own.at_ (xs := [.slice a2 l2 c2]) m1 rfl) (by rfl) ?_
 refine ld Aa (Own.at_ (xs := [.slice a3 l3 c3]) m1 rfl) (by rfl) ?_
 refine ld Aa (Own.at_ (xs := [.slice a4 l4 c4]) m1 rfl) (by rfl) ?_
 refine ne (by decide) ?_
 refine nd fun r w3 e3 s3 k3 m3 => ?_
 have m3 : Own w3 r 23 [.slice a4 l4 c4] := m3
 refine st Aa (k3.own m2 id) rfl (Nat.le_refl 5) rfl ?_
 intro w4 s4 k4 m4
 refine ld Aa (Own.at_ (xs := [.slice a1 l1 c1,.int .i64 n,.slice a2 l2 c2,.slice a3 l3 c3,.slice (some ⟨r,0,none⟩) 1 1]) (o := 0) m4 rfl) (by rfl) ?_
 refine ⟨?_,r,?_,?_,?_,rfl⟩
 · exact k1.trans ((k2.trans k3).new e2 k4)
 · have := k1.size; have := k2.size; omega
 · omega
 · exact k4.heap m3 (by omega)
theorem Mv : Af prog 74 = true := by kernel_rfl
theorem GenV.chg {lo hi lo' hi' : Nat} {w w' : World} {p i e s : Value} {g : General} (h : GenV lo hi w p i e s g) (k : Kp w w') (h1 : lo' ≤ lo) (h2 : hi ≤ hi') : GenV lo' hi' w' p i e s g :=
 ⟨(h.props.chg k (fun _ _ _ h => h) (fun _ _ h => h)).mono (fun _ _ h => h) h1 h2,(h.init.chg k (fun _ _ _ h => h) (fun _ _ h => h)).mono (fun _ _ h => h) h1 h2,(h.edges.chg k (fun _ _ _ h => h) (fun _ _ h => h)).mono (fun _ _ h => h) h1 h2,
   (h.sets.chg k (fun _ _ _ h => h) (fun _ _ ⟨u,hu,hr,hl⟩ => ⟨u,hu,hr.chg k (fun _ _ _ h => h) (fun _ _ h => h),hl⟩)).mono (fun _ _ ⟨u,hu,hr,hl⟩ => ⟨u,hu,hr.mono (fun _ _ h => h) h1 h2,hl⟩) h1 h2,h.lp,h.li,h.le,h.ls⟩
theorem BuchiV.chg {lo hi lo' hi' : Nat} {w w' : World} {p i e s : Value} {g : Buchi} (h : BuchiV lo hi w p i e s g) (k : Kp w w') (h1 : lo' ≤ lo) (h2 : hi ≤ hi') : BuchiV lo' hi' w' p i e s g :=
 ⟨(h.props.chg k (fun _ _ _ h => h) (fun _ _ h => h)).mono (fun _ _ h => h) h1 h2,(h.init.chg k (fun _ _ _ h => h) (fun _ _ h => h)).mono (fun _ _ h => h) h1 h2,(h.edges.chg k (fun _ _ _ h => h) (fun _ _ h => h)).mono (fun _ _ h => h) h1 h2,
   (h.final.chg k (fun _ _ _ h => h) (fun _ _ h => h)).mono (fun _ _ h => h) h1 h2,h.lp,h.li,h.le,h.lf⟩
theorem BuchiV.general {lo hi q : Nat} {w : World} {p i e f : Value} {g : Buchi} (h : BuchiV lo hi w p i e f g) (m : w.heap[q]? = some (.cells [f].toArray 23 (0,0))) : GenV 0 (max hi (q + 1)) w p i e (.slice (some ⟨q,0,none⟩) 1 1) g.general := by
 have h' := h.chg (Chg.refl _ w) (Nat.zero_le _) (Nat.le_max_left hi (q + 1))
 refine ⟨h'.props,h'.init,h'.edges,?_,h.lp,h.li,h.le,by simp [Buchi.general]⟩
 refine Wp m (fun j x hx => ?_) rfl (Nat.le_refl _) (Nat.zero_le _) (by omega)
 cases j with
 | zero =>
  simp [Buchi.general] at hx
  subst hx
  exact ⟨f,rfl,f,rfl,h'.final,h.lf⟩
 | succ j => simp [Buchi.general] at hx
theorem Lk {w : World} {lo hi : Nat} {pv iv ev fv : Value} {g : Buchi} (hv : BuchiV lo hi w pv iv ev fv g) :
 Calls prog 23 [.agg #[pv,.int .i64 g.states,iv,ev,fv]].toArray w (Bg fun r w' => r = .int .i64 (Kb (Al g.general)) ∧ Kp w w') := by
 obtain ⟨a1,c1,rfl,-⟩ := id hv.props
 obtain ⟨a2,c2,rfl,-⟩ := id hv.init
 obtain ⟨a3,c3,rfl,-⟩ := id hv.edges
 obtain ⟨a4,c4,rfl,-⟩ := id hv.final
 refine call Aa func23 rfl ntmps23 (by kernel_rfl) ?_
 refine nd fun p w1 e1 s1 k1 m1 => ?_
 have m1 : Own w1 p 29 [.slice a1 g.props.length c1,.int .i64 g.states,.slice a2 g.init.length c2,.slice a3 g.edges.length c3,.slice a4 g.final.length c4] := m1
 refine ld Aa (Own.at_ (xs := [.slice a1 g.props.length c1,.int .i64 g.states,.slice a2 g.init.length c2,.slice a3 g.edges.length c3,.slice a4 g.final.length c4]) (o := 0) m1 rfl) (by rfl) ?_
 refine cl Mv (Qo w1 a1 a2 a3 a4 _ c1 _ c2 _ c3 _ c4 g.states) ?_
 rintro _ w2 ⟨k2,q,hq1,hq2,mq,rfl⟩
 have hg := (hv.chg (k1.trans k2) (Nat.le_refl _) (Nat.le_refl _)).general mq
 have hc := R2 hg
 refine cl Ki hc ?_
 rintro _ w3 ⟨rfl,k3⟩
 exact ⟨rfl,k1.trans (k2.trans k3)⟩
theorem Jb : Af prog 23 = true := by kernel_rfl
def My (x : Int) : Prop := 0 ≤ x ∧ x < 65536
abbrev No := RowE (fun _ cs (x : Int) => cs = [.int .u16 x] ∧ My x) 1
structure Word where
 stem : List Int
 loop : List Int
structure WordV (lo hi : Nat) (w : World) (s l : Value) (x : Word) : Prop where
 stem : No lo hi w s x.stem
 loop : No lo hi w l x.loop
 ls : x.stem.length < 2305843009213693952
 ll : x.loop.length < 2305843009213693952
theorem WordV.chg {lo hi lo' hi' : Nat} {w w' : World} {s l : Value} {x : Word} (h : WordV lo hi w s l x) (k : Kp w w') (h1 : lo' ≤ lo) (h2 : hi ≤ hi') : WordV lo' hi' w' s l x :=
 ⟨(h.stem.chg k (fun _ _ _ h => h) (fun _ _ h => h)).mono (fun _ _ h => h) h1 h2,(h.loop.chg k (fun _ _ _ h => h) (fun _ _ h => h)).mono (fun _ _ h => h) h1 h2,h.ls,h.ll⟩
def Fo (φ : Int → Bool) : Nat → List Int → Int
 | _,[] => -1
 | i,x :: r => if φ x then i else Fo φ (i + 1) r
theorem Aa8 {w : World} {lo hi : Nat} {v : Value} {xs : List Int} (h : No lo hi w v xs) (hl : xs.length < 4611686018427387904) (g : FuncId) (cap : List Value) (φ : Int → Bool) (hg : Af prog g = true)
 (hf : ∀ W x,Kp w W → My x → Calls prog g (.int .u16 x :: cap).toArray W (Bg fun r w' => r = .bool (φ x) ∧ Kp W w')) :
 Calls prog 140 [v,.func (.func g) #[] cap.toArray].toArray w (Bg fun r w' => r = .int .i64 (Fo φ 0 xs) ∧ Kp w w') := by
 obtain ⟨a,c,rfl,hcap,hx⟩ := h
 refine call Aa func140 rfl ntmps140 (by kernel_rfl) ?_
 refine loop Aa (σ := Nat) (fun i => [(0,.slice a xs.length c),(1,.func (.func g) #[] cap.toArray),(6,.slice a xs.length c),(7,.int .i64 xs.length),(8,.int .i64 i)])
  (fun i w' => Kp w w' ∧ i ≤ xs.length ∧ Fo φ 0 xs = Fo φ i (xs.drop i)) (fun i => xs.length - i) 0
  ⟨rfl,rfl,rfl,rfl,rfl,trivial⟩ ⟨Chg.refl _ _,by omega,by simp⟩ ?_
 rintro i e0 w1 ⟨hk,hi,hr⟩
 refine sp (fun h1 => ?_) (fun h1 => ?_)
 · have hi' : i < xs.length := by omega
   obtain ⟨b,o,rfl,hlo,hhi,cs,hcs,hrd,rfl,hwf⟩ := hx i xs[i] (by simp)
   rw [List.drop_eq_getElem_cons hi'] at hr
   refine ne ⟨by omega,h1⟩ ?_
   refine ld Aa (hk.range hrd id) (by rfl) ?_
   cases hb : φ xs[i] with
   | true =>
    refine cl (R := fun r w' => r = .bool true ∧ Kp w1 w') hg (by have := hf w1 xs[i] hk hwf; rw [hb] at this; exact this) ?_
    rintro _ w2 ⟨rfl,k2⟩
    exact ⟨congrArg (Value.int .i64) (by rw [hr]; simp [Fo,hb]),hk.trans k2⟩
   | false =>
    refine cl (R := fun r w' => r = .bool false ∧ Kp w1 w') hg (by have := hf w1 xs[i] hk hwf; rw [hb] at this; exact this) ?_
    rintro _ w2 ⟨rfl,k2⟩
    refine aw (by omega) (by omega) ?_
    refine again (i + 1) ⟨rfl,rfl,rfl,rfl,rfl,trivial⟩ ⟨hk.trans k2,by omega,?_⟩ (by omega)
    rw [hr]; simp [Fo,hb]
 · exact ⟨congrArg (Value.int .i64) (by rw [hr,List.drop_eq_nil_of_le (by omega)]; rfl),hk⟩
theorem Ym : Af prog 140 = true := by kernel_rfl
theorem Im (φ : Int → Bool) : ∀ (xs : List Int) (i : Nat),(0 ≤ Fo φ i xs) ↔ xs.any φ = true
 | [],i => by simp [Fo]
 | x :: r,i => by
  simp only [Fo,List.any_cons]
  cases h : φ x with
  | true => simp
  | false => simpa using Im φ r (i + 1)
theorem Hy {w : World} {lo hi : Nat} {v : Value} {xs : List Int} (h : No lo hi w v xs) (hl : xs.length < 4611686018427387904) (g : FuncId) (cap : List Value) (φ : Int → Bool) (hg : Af prog g = true)
 (hf : ∀ W x,Kp w W → My x → Calls prog g (.int .u16 x :: cap).toArray W (Bg fun r w' => r = .bool (φ x) ∧ Kp W w')) :
 Calls prog 121 [v,.func (.func g) #[] cap.toArray].toArray w (Bg fun r w' => r = .bool (xs.any φ) ∧ Kp w w') := by
 refine call Aa func121 rfl ntmps121 (by kernel_rfl) ?_
 refine cl Ym (Aa8 h hl g cap φ hg hf) ?_
 rintro _ w1 ⟨rfl,k1⟩
 refine sp (fun h => ?_) (fun h => ?_)
 · exact ⟨congrArg Value.bool ((Im φ xs 0).1 h).symm,k1⟩
 · refine ⟨congrArg Value.bool ?_,k1⟩
   rw [Im φ xs 0] at h
   simpa using h
theorem Ft : Af prog 121 = true := by kernel_rfl
theorem AaN {n : Nat} (h : n ≤ 8) : (1 : Int) * 2 ^ (min ((n : Int)).toNat (IntKind.bits .i64)) = 2 ^ n ∧ (1 : Int) ≤ 2 ^ n ∧ (2 : Int) ^ n ≤ 256 := by
 refine ⟨?_,?_,?_⟩
 · rw [Int.toNat_natCast,Nat.min_eq_left (by simp only [IntKind.bits]; omega),Int.one_mul]
 · have h : 1 ≤ (2 : Nat) ^ n := Nat.one_le_two_pow
   have := Int.ofNat_le.2 h
   rw [Int.natCast_pow] at this
   exact this
 · have h : (2 : Nat) ^ n ≤ 2 ^ 8 := Nat.pow_le_pow_right (by decide) h
   have := Int.ofNat_le.2 h
   rw [Int.natCast_pow] at this
   exact this
theorem AgE {w : World} {b n : Nat} (hn : n ≤ 8) (m : Own w b 3 [.int .i64 n]) (x : Int) (hx : My x) : Calls prog 120 [.int .u16 x,pt b 0].toArray w (Bg fun r w' => r = .bool (decide ((2 : Int) ^ n ≤ x)) ∧ Kp w w') := by
 refine call Aa func120 rfl ntmps120 (by kernel_rfl) ?_
 obtain ⟨h1,h2⟩ := hx
 obtain ⟨e1,e2,e3⟩ := AaN hn
 refine aw (by omega) (by omega) ?_
 refine ld Aa (Own.at_ (xs := [.int .i64 n]) m rfl) (by rfl) ?_
 refine ne (by omega) ?_
 refine aw (by rw [e1]; omega) (by rw [e1]; omega) ?_
 refine sp (fun h => ?_) (fun h => ?_)
 · exact ⟨congrArg Value.bool (by rw [decide_eq_true (by rw [← e1]; exact h)]),Chg.refl _ _⟩
 · exact ⟨congrArg Value.bool (by rw [decide_eq_false (by rw [← e1]; exact h)]),Chg.refl _ _⟩
theorem Nj : Af prog 120 = true := by kernel_rfl
def Gc (x : Word) (n : Nat) : Bool := !decide (x.loop.length = 0) && !x.stem.any (fun c => decide ((2 : Int) ^ n ≤ c)) && !x.loop.any (fun c => decide ((2 : Int) ^ n ≤ c))
theorem Y5 {w : World} {lo hi : Nat} {sv lv : Value} {x : Word} (hv : WordV lo hi w sv lv x) {n : Nat} (hn : n ≤ 8) :
 Calls prog 103 [.agg #[sv,lv],.int .i64 n].toArray w (Bg fun r w' => r = .int .i64 (if Gc x n then 0 else 50) ∧ Kp w w') := by
 refine call Aa func103 rfl ntmps103 (by kernel_rfl) ?_
 refine nd fun p w1 e1 s1 k1 m1 => ?_
 have m1 : Own w1 p 33 [sv,lv] := m1
 refine nd fun q w2 e2 s2 k2 m2 => ?_
 have m2 : Own w2 q 3 [.int .i64 n] := m2
 have m1 := k2.own m1 id
 refine ld Aa (Own.at_ (xs := [.int .i64 n]) m2 rfl) (by rfl) ?_
 refine Bs (by omega) ?_
 refine ld Aa (Own.at_ (xs := [.int .i64 n]) m2 rfl) (by rfl) ?_
 refine Bs (by omega) ?_
 have k02 := k1.trans k2
 have hf : ∀ W x,Kp w2 W → My x → Calls prog 120 (.int .u16 x :: [pt q 0]).toArray W (Bg fun r w' => r = .bool (decide ((2 : Int) ^ n ≤ x)) ∧ Kp W w') := fun W x k hx => AgE hn (k.own m2 id) x hx
 have hv2 := hv.chg k02 (Nat.le_refl _) (Nat.le_refl _)
 have hls := hv.ls
 have hll := hv.ll
 obtain ⟨a2,c2,hlv,-⟩ := id hv.loop
 subst hlv
 refine ld Aa (Own.at_ (xs := [.slice a2 x.loop.length c2]) m1 rfl) (by rfl) ?_
 refine sp (fun h => ?_) (fun h => ?_)
 · exact ⟨congrArg (Value.int .i64) (by simp [Gc,show x.loop.length = 0 by omega]),k02⟩
 · refine ld Aa (Own.at_ (xs := [sv]) m1 rfl) (by rfl) ?_
   cases hb : x.stem.any (fun c => decide ((2 : Int) ^ n ≤ c)) with
   | true =>
    refine cl (R := fun r w' => r = .bool true ∧ Kp w2 w') Ft (by have := Hy hv2.stem (by omega) _ [pt q 0] _ Nj hf; rw [hb] at this; exact this) ?_
    rintro _ w3 ⟨rfl,k3⟩
    exact ⟨congrArg (Value.int .i64) (by simp only [Gc,hb]; simp),k02.trans k3⟩
   | false =>
    refine cl (R := fun r w' => r = .bool false ∧ Kp w2 w') Ft (by have := Hy hv2.stem (by omega) _ [pt q 0] _ Nj hf; rw [hb] at this; exact this) ?_
    rintro _ w3 ⟨rfl,k3⟩
    refine ld Aa (Own.at_ (xs := [.slice a2 x.loop.length c2]) (k3.own m1 id) rfl) (by rfl) ?_
    have hv3 := hv2.chg k3 (Nat.le_refl _) (Nat.le_refl _)
    cases hb2 : x.loop.any (fun c => decide ((2 : Int) ^ n ≤ c)) with
    | true =>
     refine cl (R := fun r w' => r = .bool true ∧ Kp w3 w') Ft (by have := Hy hv3.loop (by omega) _ [pt q 0] _ Nj (fun W x k hx => hf W x (k3.trans k) hx); rw [hb2] at this; exact this) ?_
     rintro _ w4 ⟨rfl,k4⟩
     exact ⟨congrArg (Value.int .i64) (by simp only [Gc,hb2]; simp),k02.trans (k3.trans k4)⟩
    | false =>
     refine cl (R := fun r w' => r = .bool false ∧ Kp w3 w') Ft (by have := Hy hv3.loop (by omega) _ [pt q 0] _ Nj (fun W x k hx => hf W x (k3.trans k) hx); rw [hb2] at this; exact this) ?_
     rintro _ w4 ⟨rfl,k4⟩
     exact ⟨congrArg (Value.int .i64) (by simp only [Gc,hb,hb2]; rw [decide_eq_false (by omega)]; rfl),k02.trans (k3.trans k4)⟩
theorem Vy : Af prog 103 = true := by kernel_rfl
def Word.places (x : Word) : Nat := if x.loop.length = 0 then 0 else x.stem.length + x.loop.length
def Word.behind (x : Word) (i : Nat) : Int := if x.places ≤ i then -1 else if i + 1 = x.places then x.stem.length else (i : Int) + 1
def Word.at (x : Word) (i : Nat) : Int := if x.loop.length = 0 then 0 else if i < x.stem.length then x.stem.getD i 0 else x.loop.getD ((i - x.stem.length) % x.loop.length) 0
theorem Zo {w : World} (a1 a2 : Option Addr) (c1 c2 : Nat) (x : Word) (ls : x.stem.length < 2305843009213693952) (ll : x.loop.length < 2305843009213693952) :
 Calls prog 141 [.agg #[.slice a1 x.stem.length c1,.slice a2 x.loop.length c2]].toArray w (Bg fun r w' => r = .int .i64 (x.places : Nat) ∧ Kp w w') := by
 refine call Aa func141 rfl ntmps141 (by kernel_rfl) ?_
 refine nd fun p w1 e1 s1 k1 m1 => ?_
 have m1 : Own w1 p 33 [.slice a1 x.stem.length c1,.slice a2 x.loop.length c2] := m1
 refine ld Aa (Own.at_ (xs := [.slice a2 x.loop.length c2]) m1 rfl) (by rfl) ?_
 refine sp (fun h => ?_) (fun h => ?_)
 · exact ⟨congrArg (Value.int .i64) (by simp [Word.places,show x.loop.length = 0 by omega]),k1⟩
 · refine ld Aa (Own.at_ (xs := [.slice a1 x.stem.length c1]) m1 rfl) (by rfl) ?_
   refine ld Aa (Own.at_ (xs := [.slice a2 x.loop.length c2]) m1 rfl) (by rfl) ?_
   refine aw (by omega) (by omega) ?_
   exact ⟨congrArg (Value.int .i64) (by unfold Word.places; rw [if_neg (by omega)]; omega),k1⟩
theorem V6 : Af prog 141 = true := by kernel_rfl
theorem AaF {w : World} (a1 a2 : Option Addr) (c1 c2 : Nat) (x : Word) (ls : x.stem.length < 2305843009213693952) (ll : x.loop.length < 2305843009213693952) (i : Nat) (hi : i < 4611686018427387904) :
 Calls prog 125 [.agg #[.slice a1 x.stem.length c1,.slice a2 x.loop.length c2],.int .i64 i].toArray w (Bg fun r w' => r = .int .i64 (x.behind i) ∧ Kp w w') := by
 refine call Aa func125 rfl ntmps125 (by kernel_rfl) ?_
 refine nd fun p w1 e1 s1 k1 m1 => ?_
 have m1 : Own w1 p 33 [.slice a1 x.stem.length c1,.slice a2 x.loop.length c2] := m1
 refine ld Aa (Own.at_ (xs := [.slice a1 x.stem.length c1,.slice a2 x.loop.length c2]) (o := 0) m1 rfl) (by rfl) ?_
 have hc := Zo (w := w1) a1 a2 c1 c2 x ls ll
 have hpl : x.places ≤ x.stem.length + x.loop.length := by unfold Word.places; split <;> omega
 refine cl V6 hc ?_
 rintro _ w2 ⟨rfl,k2⟩
 refine Bs (by omega) ?_
 refine sp (fun h => ?_) (fun h => ?_)
 · exact ⟨congrArg (Value.int .i64) (by simp [Word.behind,show x.places ≤ i by omega]),k1.trans k2⟩
 · refine aw (by omega) (by omega) ?_
   refine sp (fun h2 => ?_) (fun h2 => ?_)
   · refine ld Aa (Own.at_ (xs := [.slice a1 x.stem.length c1]) (k2.own m1 id) rfl) (by rfl) ?_
     exact ⟨congrArg (Value.int .i64) (by unfold Word.behind; rw [if_neg (by omega),if_pos (by omega)]),k1.trans k2⟩
   · refine aw (by omega) (by omega) ?_
     exact ⟨congrArg (Value.int .i64) (by unfold Word.behind; rw [if_neg (by omega),if_neg (by omega)]),k1.trans k2⟩
theorem V8 : Af prog 125 = true := by kernel_rfl
theorem AjB {w : World} {lo hi : Nat} {sv lv : Value} {x : Word} (hv : WordV lo hi w sv lv x) (i : Nat) (hi : i < 4611686018427387904) :
 Calls prog 124 [.agg #[sv,lv],.int .i64 i].toArray w (Bg fun r w' => r = .int .u16 (x.at i) ∧ Kp w w') := by
 have ls := hv.ls
 have ll := hv.ll
 obtain ⟨a1,c1,rfl,-,hs⟩ := hv.stem
 obtain ⟨a2,c2,rfl,-,hl⟩ := hv.loop
 refine call Aa func124 rfl ntmps124 (by kernel_rfl) ?_
 refine nd fun p w1 e1 s1 k1 m1 => ?_
 have m1 : Own w1 p 33 [.slice a1 x.stem.length c1,.slice a2 x.loop.length c2] := m1
 refine Bs (by omega) ?_
 refine ld Aa (Own.at_ (xs := [.slice a2 x.loop.length c2]) m1 rfl) (by rfl) ?_
 refine sp (fun h => ?_) (fun h => ?_)
 · exact ⟨congrArg (Value.int .u16) (by simp [Word.at,show x.loop.length = 0 by omega]),k1⟩
 refine ld Aa (Own.at_ (xs := [.slice a1 x.stem.length c1]) m1 rfl) (by rfl) ?_
 refine sp (fun h2 => ?_) (fun h2 => ?_)
 · refine ld Aa (Own.at_ (xs := [.slice a1 x.stem.length c1]) m1 rfl) (by rfl) ?_
   have hi' : i < x.stem.length := by omega
   obtain ⟨b,o,rfl,hlo,hhi,cs,hcs,hrd,rfl,hwf⟩ := hs i x.stem[i] (by simp)
   refine ne ⟨by omega,h2⟩ ?_
   refine ld Aa (k1.range hrd id) (by rfl) ?_
   exact ⟨congrArg (Value.int .u16) (by unfold Word.at; rw [if_neg (by omega),if_pos hi']; simp [hi']),k1⟩
 · have hj : (i - x.stem.length) % x.loop.length < x.loop.length := Nat.mod_lt _ (by omega)
   obtain ⟨b,o,rfl,hlo,hhi,cs,hcs,hrd,rfl,hwf⟩ := hl ((i - x.stem.length) % x.loop.length) x.loop[(i - x.stem.length) % x.loop.length] (by simp)
   have hm : ((i : Int) - x.stem.length).tmod x.loop.length = (((i - x.stem.length) % x.loop.length : Nat) : Int) := by
    rw [show (i : Int) - x.stem.length = ((i - x.stem.length : Nat) : Int) by omega,Int.ofNat_tmod]
   have A : ∀ W,Kp w1 W → Own W p 33 [.slice a1 x.stem.length c1,.slice (some ⟨b,o,none⟩) x.loop.length c2] := fun W h => h.heap m1 id
   refine Ax Aa mixed 14 (by kernel_rfl) (fun _ => False) ?_
   conv => whnf
   refine A7 Aa rfl rfl (fun W h _ => Own.at_ (xs := [.slice (some ⟨b,o,none⟩) x.loop.length c2]) (A W h) rfl) (by rfl) fun _ => ?_
   conv => whnf
   refine A7 Aa rfl rfl (fun W h _ => Own.at_ (xs := [.slice a1 x.stem.length c1]) (A W h) rfl) (by rfl) fun _ => ?_
   conv => whnf
   refine aw (by omega) (by omega) ?_
   conv => whnf
   refine A7 Aa rfl rfl (fun W h _ => Own.at_ (xs := [.slice (some ⟨b,o,none⟩) x.loop.length c2]) (A W h) rfl) (by rfl) fun _ => ?_
   conv => whnf
   refine ne (by omega) ?_
   conv => whnf
   refine ⟨fun y hy => ?_⟩
   rw [hm] at hy
   subst hy
   conv => whnf
   refine ne ⟨by omega,by omega⟩ ?_
   conv => whnf
   refine A7 Aa rfl rfl (fun W h _ => (k1.trans h).range hrd id) (by rfl) fun _ => ?_
   conv => whnf
   intro W h _
   exact ⟨congrArg (Value.int .u16) (by unfold Word.at; rw [if_neg (by omega),if_neg (by omega)]; simp [hj]),k1.trans h⟩
theorem AcE : Af prog 124 = true := by kernel_rfl
abbrev Ag := Int × Int
def Ao (p : Ag) : List Value := [.int .i64 p.1,.int .i64 p.2]
def Bp (p : Ag) : Value := .agg #[.int .i64 p.1,.int .i64 p.2]
theorem Ej (x y : Ag) (h : Bp x = Bp y) : x = y := by
 obtain ⟨a,b⟩ := x
 obtain ⟨c,d⟩ := y
 simp [Bp] at h
 rw [h.1,h.2]
def G7 (x : Int) : Prop := -9223372036854775808 ≤ x ∧ x ≤ 9223372036854775807
theorem Uw {x : Int} (h : G7 x) : (Lit.int .i64 x).wf = true := by
 show (decide ((-9223372036854775808 : Int) ≤ x) && decide (x ≤ (9223372036854775807 : Int))) = true
 rw [decide_eq_true h.1,decide_eq_true h.2]; rfl
theorem Bk : Keyed prog 192 := Maps.Keyed.of_law (deep_law_laid (P := prog) (by kernel_rfl) (m := 2) (by decide) (of_decide_eq_true (by kernel_rfl)) (by kernel_rfl) (by rw [underlying192]))
theorem Xt : prog.keyType 192 = true := by kernel_rfl
theorem Nt : ∃ m,prog.types.size = m + 1 := ⟨prog.types.size - 1,by
 have : 0 < prog.types.size := of_decide_eq_true (by kernel_rfl)
 omega⟩
theorem B2 {p : Ag} (h1 : G7 p.1) (h2 : G7 p.2) : ∃ lit,keyOf prog 192 (Bp p) = some lit := by
 obtain ⟨m,hm⟩ := Nt
 have w1 : (Lit.int .i64 p.1).wf = true := Uw h1
 have w2 : (Lit.int .i64 p.2).wf = true := Uw h2
 unfold keyOf Bp
 simp only [underlying192]
 rw [if_pos (by simp [Xt,Value.formed,underlying192]; try kernel_rfl),hm]
 unfold Program.keyLits
 simp only [underlying192,Value.cells]
 rw [if_pos ⟨by kernel_rfl,by kernel_rfl⟩]
 have hc : prog.cellsOf 3 = 1 := by kernel_rfl
 simp [hc,Program.keyLits,underlying3,w1,w2,List.mapM_cons]
def Hx (l : List Ag) : List Value := l.flatMap Ao
theorem Qp (l : List Ag) (p : Ag) : Hx (l ++ [p]) = Hx l ++ Ao p := by simp [Hx]
abbrev AaG (w : World) (base : Nat) (L : List (Value × List Value)) := Bag w base 192 2 L
abbrev Cs (w : World) (m : Nat) (xs : List (Ag × Int)) := MapE prog 192 Bp (fun n : Int => .int .i64 n) w m xs
structure PutV (w : World) (base p9 p5 r ms mn : Nat) (cs : List Value) (av : Value) (all : List Ag) (L : List (Value × List Value)) : Prop where
 m9 : Own w p9 190 [.map (some ms)]
 m5 : Own w p5 168 [pt r 0]
 mr : Own w r 189 (cs ++ [.map (some mn),av])
 len : cs.length = 7
 seen : Cs w ms (all.map fun p => (p,1))
 bag : AaG w base ((av,Hx all) :: L)
 base : base ≤ w.heap.size
theorem Yv {α : Type} [DecidableEq α] {l : List α} {s : α} (h : s ∈ l) : Bn (l.map fun s => (s,(1 : Int))) s = some 1 := by
 induction l with
 | nil => simp at h
 | cons a r ih =>
  simp only [List.map_cons,Bn]
  by_cases h' : a = s
  · rw [if_pos h']
  · rw [if_neg h',ih ((List.mem_cons.1 h).resolve_left (Ne.symm h'))]
theorem Ed {all : List Ag} {p : Ag} : Ck (all.map fun p => (p,(1 : Int))) 0 p = if p ∈ all then 1 else 0 := by
 unfold Ck
 by_cases h : p ∈ all
 · rw [if_pos h,Yv h]; rfl
 · rw [if_neg h,H5 fun q hq he => by
    obtain ⟨x,hx,rfl⟩ := List.mem_map.1 hq
    exact h (he ▸ hx)]
   rfl
theorem AbN {w : World} {base p9 p5 r ms mn : Nat} {cs : List Value} {av : Value} {all : List Ag} {L : List (Value × List Value)} (h : PutV w base p9 p5 r ms mn cs av all L) {p : Ag} (h1 : G7 p.1) (h2 : G7 p.2) (hl : all.length < 1099511627776) :
 Calls prog 122 [Bp p,pt p9 0,pt p5 0].toArray w (Bg fun _ w' => ∃ av',PutV w' base p9 p5 r ms mn cs av' (if p ∈ all then all else all ++ [p]) L ∧
  Chg (fun k => k = r ∨ k = ms ∨ some k = av.ownBlock) w w' ∧ ∀ g,av'.ownBlock = some g → av.ownBlock = some g ∨ w.heap.size ≤ g) := by
 refine call Aa func122 rfl ntmps122 (by kernel_rfl) ?_
 refine nd fun q w1 e1 s1 k1 m1 => ?_
 have mq : Own w1 q 192 (Ao p) := m1
 have m9 := k1.own h.m9 id
 have m5 := k1.own h.m5 id
 have mr := k1.own h.mr id
 have seen := h.seen.chg k1 id
 have bag := h.bag.kp k1
 refine ld Aa (Own.at_ (xs := [.map (some ms)]) m9 rfl) (by rfl) ?_
 refine ld Aa (v := Bp p) (Own.at_ (xs := Ao p) (o := 0) mq rfl) (by rfl) ?_
 have hg := MapE.get Aa Bk (t := 190) rfl rfl rfl rfl (z := 0) seen p (B2 h1 h2)
 rw [Ed] at hg
 refine lk hg ?_
 by_cases hp : p ∈ all
 · rw [if_pos hp,if_pos hp]
   refine Bs (by decide) ?_
   exact ⟨av,⟨m9,m5,mr,h.len,seen,bag,Nat.le_trans h.base k1.size⟩,k1.mono fun _ hf => hf.elim,fun g hg => .inl hg⟩
 rw [if_neg hp,if_neg hp]
 rw [if_neg hp] at hg
 refine Dj (by decide) ?_
 have n9 : p9 ≠ ms := seen.ne m9
 have nq : q ≠ ms := seen.ne mq
 have hpre := I1 prog 192 Bp (fun n : Int => .int .i64 n) 0 ms p
 refine Dg Aa mixed 6 (by kernel_rfl) _ hpre ?_
 conv => whnf
 refine Gy hpre Aa rfl rfl (fun W h _ => h.chg.range (Own.at_ (xs := [.map (some ms)]) m9 rfl) n9) (by rfl) fun _ => ?_
 conv => whnf
 refine Gy (v := Bp p) hpre Aa rfl rfl (fun W h _ => h.chg.range (Own.at_ (xs := Ao p) (o := 0) mq rfl) nq) (by rfl) fun _ => ?_
 conv => whnf
 refine Zt (v := .int .i64 0) hpre rfl (fun W h _ => by
  obtain ⟨x1,hm1,he1⟩ := h.map _ seen
  have := MapE.get Aa Bk (t := 190) rfl rfl rfl rfl (z := 0) hm1 p (B2 h1 h2)
  rw [he1.get,Ed,if_neg hp] at this
  exact this) fun _ => ?_
 conv => whnf
 refine aw (by omega) (by omega) ?_
 conv => whnf
 refine enr Aa Bk (t := 190) rfl rfl rfl rfl rfl rfl (z := 0) rfl seen (B2 h1 h2) fun s D hD => ?_
 conv => whnf
 intro W hW hDs
 obtain ⟨x1,hen,he1⟩ := hD W (hDs 4)
 refine mu (hen.store 1) ?_
 rintro w3 ⟨hm3,hs3,hc3⟩
 have hones : aput x1 p 1 = (all ++ [p]).map fun p => (p,(1 : Int)) := by
  rw [he1.put,Cz fun x hx he => by
   obtain ⟨y,hy,rfl⟩ := List.mem_map.1 hx
   exact hp (he ▸ hy)]
  simp
 rw [hones] at hm3
 have hc : Chg (fun k => k = ms) w1 w3 := hW.chg.trans hc3
 have nr : r ≠ ms := seen.ne mr
 have n5 : p5 ≠ ms := seen.ne m5
 have m9 := hc.own m9 n9
 have m5 := hc.own m5 n5
 have mr := hc.own mr nr
 have mq := hc.own mq nq
 obtain ⟨es,clock,hms,-⟩ := seen.h
 have bag := bag.chg hc fun x hx b hb hs => by
  subst hs
  exact bag.ne hms (by simp) x hx hb
 obtain ⟨n,hrow⟩ := bag.own _ List.mem_cons_self
 have hn : n = all.length := by
  have := hrow.1
  simp only [Hx] at this
  rw [An (size := 2) (fun x => rfl)] at this
  omega
 subst hn
 have ha : (cs ++ [.map (some mn),av]).length = 9 := by simp [h.len]
 obtain ⟨c0,c1,c2,c3,c4,c5,c6,rfl⟩ : ∃ c0 c1 c2 c3 c4 c5 c6,cs = [c0,c1,c2,c3,c4,c5,c6] := by
  have := h.len
  match cs,this with
  | [c0,c1,c2,c3,c4,c5,c6],_ => exact ⟨_,_,_,_,_,_,_,rfl⟩
 have hlt : ∀ g,av.ownBlock = some g → g < w3.heap.size := fun g hg => (hrow.lt g hg).2
 have ne_of : ∀ {b t cs},Own w3 b t cs → t ≠ 192 → some b ≠ av.ownBlock := fun {b t cs} ho ht he =>
  Ai hrow ho (fun cs fr hh => by injection hh with _ h2; exact ht h2) he.symm
 have ne_q : some q ≠ av.ownBlock := fun he => by
  have := (h.bag.lt _ List.mem_cons_self q he.symm).2
  omega
 have hpre3 := Ek w3 av (all.length * 2) (Ao p)
 refine Dg Aa mixed 10 (by kernel_rfl) _ hpre3 ?_
 conv => whnf
 refine Gy hpre3 Aa rfl rfl (fun W h _ => h.chg.range (Own.at_ (xs := [pt r 0]) m5 rfl) (ne_of m5 (by decide))) (by rfl) fun _ => ?_
 conv => whnf
 refine Gy hpre3 Aa rfl rfl (fun W h _ => h.chg.range (Own.at_ (xs := [pt r 0]) m5 rfl) (ne_of m5 (by decide))) (by rfl) fun _ => ?_
 conv => whnf
 refine Gy hpre3 Aa rfl rfl (fun W h _ => h.chg.range (Own.at_ (xs := [av]) mr rfl) (ne_of mr (by decide))) (by rfl) fun _ => ?_
 conv => whnf
 refine Gy (v := Bp p) hpre3 Aa rfl rfl (fun W h _ => h.chg.range (Own.at_ (xs := Ao p) (o := 0) mq rfl) ne_q) (by rfl) fun _ => ?_
 conv => whnf
 refine Uh hpre3 rfl rfl rfl rfl rfl (by decide) (fun b o W W' hb ho hS => hS.chg.heap ho fun hc => by have := hlt b hc.symm; omega) (fun W hS => hS.chg.size) fun b D hD => ?_
 conv => whnf
 refine apr (m := 1) (news := Ao p) Aa rfl rfl rfl rfl rfl rfl rfl (by decide) hrow rfl (fun W hS hDn => Own.at_ (xs := Ao p) (o := 0) (hD W (hDn 6 (by kernel_rfl))).1 rfl) rfl (by simp only [maxLen]; omega) (by show (all.length + 1) * 16 ≤ _; omega) (by have := k1.size; have := hc.size; have := h.base; omega) fun av' D2 hD2 => ?_
 conv => whnf
 intro W hS hDn
 obtain ⟨hown',hnew⟩ := hD2 W (hDn 7)
 have mrW := hS.chg.own mr (ne_of mr (by decide))
 obtain ⟨a',cap',rfl⟩ := Ae hown'
 refine st Aa mrW rfl (Nat.le_refl 9) rfl ?_
 intro w4 s4 k4 m4
 refine ⟨.slice a' (all.length + 1) cap',⟨k4.own (hS.chg.own m9 (ne_of m9 (by decide))) ?_,k4.own (hS.chg.own m5 (ne_of m5 (by decide))) ?_,m4,rfl,?_,?_,?_⟩,?_,?_⟩
 · exact A2 m9 mr (by decide)
 · exact A2 m5 mr (by decide)
 · obtain ⟨es3,clock3,hms3,-⟩ := hm3.h
   exact (hm3.chg hS.chg fun he => bag.ne hms3 (by simp) _ List.mem_cons_self he.symm).chg k4 (Ne.symm nr)
 · rw [Qp]
   have hb := bag.head hS.chg (fun b h => .inl h) hown' hnew
   exact hb.chg k4 fun x hx b hb' hs => by subst hs; exact hb.ne mrW (fun cs fr hh => by injection hh with _ h2; exact absurd h2 (by decide)) x hx hb'
 · have := k1.size; have := hc.size; have := h.base; have := hS.chg.size; omega
 · have e1 : Chg (fun k => k = r ∨ k = ms ∨ some k = av.ownBlock) w1 w3 := hc.mono fun _ h => .inr (.inl h)
   have e2 : Chg (fun k => k = r ∨ k = ms ∨ some k = av.ownBlock) w3 W := hS.chg.mono fun _ h => .inr (.inr h)
   have e3 : Chg (fun k => k = r ∨ k = ms ∨ some k = av.ownBlock) W w4 := k4.mono fun _ h => .inl h
   exact ((k1.mono fun _ hf => hf.elim).trans e1).trans (e2.trans e3)
 · intro g hg
   exact (hnew g hg).imp id fun h => by have := k1.size; have := hc.size; omega
theorem Xd : Af prog 122 = true := by kernel_rfl
def Aj (es : List Edge) (s : Int) : List Edge := es.filter fun e => decide (e.frm = s)
def Ct (es : List Edge) (x : Word) (at_ : Nat) : List Ag := (es.filter fun e => Hk e (x.at at_)).map fun e => (e.to,x.behind at_)
def succ (g : General) (x : Word) (p : Ag) : List Ag := Ct (Aj g.edges p.1) x p.2.toNat
structure Good (g : General) : Prop where
 s0 : 0 ≤ g.states
 s1 : g.states ≤ 65536
 init : ∀ s ∈ g.init,0 ≤ s ∧ s < g.states
 edges : ∀ e ∈ g.edges,0 ≤ e.frm ∧ e.frm < g.states ∧ 0 ≤ e.to ∧ e.to < g.states
 sets : ∀ l ∈ g.sets,∀ s ∈ l,0 ≤ s ∧ s < g.states
theorem Ei {n : Int} : ∀ {l : List Int} {p : Option Int},Ak n p l = true → ∀ s ∈ l,0 ≤ s ∧ s < n
 | [],_,_,s,h => by simp at h
 | x :: r,p,h,s,hs => by
  simp only [Ak,Bool.and_eq_true,Bool.not_eq_true',Bool.or_eq_false_iff,decide_eq_false_iff_not] at h
  rcases List.mem_cons.1 hs with rfl | hs
  · omega
  · exact Ei h.2 s hs
theorem Jn {n k : Int} : ∀ {l : List Edge} {p : Option Edge},Ay n k p l = true → ∀ e ∈ l,0 ≤ e.frm ∧ e.frm < n ∧ 0 ≤ e.to ∧ e.to < n
 | [],_,_,s,h => by simp at h
 | x :: r,p,h,e,he => by
  simp only [Ay,Bool.and_eq_true] at h
  rcases List.mem_cons.1 he with rfl | he
  · have h1 := Ei h.1 e.frm (by simp)
    have h2 := Ei h.2.1 e.to (by simp)
    exact ⟨h1.1,h1.2,h2.1,h2.2⟩
  · exact Jn h.2.2.2.2.2.2 e he
theorem Good.of {g : General} (h : Al g = true) : Good g := by
 simp only [Al,Bool.and_eq_true,Bool.not_eq_true',decide_eq_false_iff_not] at h
 obtain ⟨⟨⟨⟨⟨h1,h2⟩,h3⟩,h4⟩,h5⟩,h6⟩ := h
 exact ⟨by omega,by omega,Ei h4,Jn h5,fun l hl s hs => Ei (List.all_eq_true.1 h6 l hl) s hs⟩
theorem Mf {x : Word} {n : Nat} (h : Gc x n = true) : x.loop.length ≠ 0 := by
 simp only [Gc,Bool.and_eq_true,Bool.not_eq_true',decide_eq_false_iff_not] at h
 exact h.1.1
theorem J3 {x : Word} (h : x.loop.length ≠ 0) : 0 < x.places ∧ x.stem.length < x.places ∧ x.places = x.stem.length + x.loop.length := by
 unfold Word.places; rw [if_neg h]; omega
theorem Q6 {x : Word} (h : x.loop.length ≠ 0) {i : Nat} (hi : i < x.places) : 0 ≤ x.behind i ∧ x.behind i < x.places := by
 have := J3 h
 unfold Word.behind
 rw [if_neg (by omega)]
 split <;> omega
def Us (g : General) (x : Word) (p : Ag) : Prop := 0 ≤ p.1 ∧ p.1 < g.states ∧ 0 ≤ p.2 ∧ p.2 < x.places
theorem Sr {g : General} {x : Word} (hg : Good g) (hx : x.loop.length ≠ 0) {p : Ag} (hp : Us g x p) : ∀ q ∈ succ g x p,Us g x q := by
 intro q hq
 simp only [succ,Ct,Aj,List.mem_map,List.mem_filter] at hq
 obtain ⟨e,⟨⟨he,-⟩,-⟩,rfl⟩ := hq
 have h1 := hg.edges e he
 obtain ⟨_,_,h2,h3⟩ := hp
 have h4 := Q6 hx (i := p.2.toNat) (by omega)
 exact ⟨h1.2.2.1,h1.2.2.2,h4.1,h4.2⟩
structure AllOf (g : General) (x : Word) (all : List Ag) : Prop where
 nodup : all.Nodup
 init : ∀ s ∈ g.init,(s,0) ∈ all
 closed : ∀ p ∈ all,∀ q ∈ succ g x p,q ∈ all
 least : ∀ X : Ag → Prop,(∀ s ∈ g.init,X (s,0)) → (∀ p q,X p → q ∈ succ g x p → X q) → ∀ p ∈ all,X p
theorem AllOf.box {g : General} {x : Word} {all : List Ag} (h : AllOf g x all) (hg : Good g) (hx : x.loop.length ≠ 0) : ∀ p ∈ all,Us g x p :=
 h.least _ (fun s hs => by
  have := hg.init s hs
  have := J3 hx
  exact ⟨by simp; omega,by simp; omega,by simp,by simp; omega⟩) (fun p q hp hq => Sr hg hx hp q hq)
theorem Nl {g : General} {x : Word} {all : List Ag} (hn : all.Nodup) (hg : Good g) (h : ∀ p ∈ all,Us g x p) : all.length ≤ g.states.toNat * x.places :=
 X4 hn fun p hp => by obtain ⟨a,b,c,d⟩ := h p hp; exact ⟨a,by have := hg.s0; omega,c,d⟩
theorem Bag.lookRow {w : World} {base size : Nat} {el : TypeId} {pre : List (Value × List Value)} {α : Type} [DecidableEq α] {nl : List (α × Value)} {F : α → List Value} (h : Bag w base el size (pre ++ nl.map fun p => (p.2,F p.1))) (hz : ∀ a,Bn nl a = none → F a = []) (a : α) : ∃ n,w.ownsRow base el size (Ck nl Ad a) n (F a) := by
 unfold Ck
 cases hl : Bn nl a with
 | none => rw [hz a hl]; exact ⟨0,World.ownsRow_nil _ _ _ _⟩
 | some v => exact h.own (v,F a) (List.mem_append_right _ (List.mem_map.2 ⟨(a,v),Iv hl,rfl⟩))
theorem RowE.and {α : Type} {E : World → List Value → α → Prop} {Q : α → Prop} {size lo hi : Nat} {w : World} {v : Value} {xs : List α} (h : RowE E size lo hi w v xs) (hq : ∀ x ∈ xs,Q x) : RowE (fun w cs x => E w cs x ∧ Q x) size lo hi w v xs := by
 obtain ⟨a,cap,hv,hc,h⟩ := h
 refine ⟨a,cap,hv,hc,fun i x hx => ?_⟩
 obtain ⟨b,o,ha,hlo,hhi,cs,hl,hr,he⟩ := h i x hx
 exact ⟨b,o,ha,hlo,hhi,cs,hl,hr,he,hq x (List.mem_of_getElem? hx)⟩
structure ByV (w : World) (base bb n : Nat) (vs : List Value) (es : List Edge) : Prop where
 len : vs.length = n
 mb : Own w bb 24 vs
 bag : Bag w base 67 4 ((List.range n).map fun (s : Nat) => (vs.getD s Ad,(Aj es s).flatMap Edge.cells))
theorem Vs (es : List Edge) (e : Edge) (s : Int) : Aj (es ++ [e]) s = if e.frm = s then Aj es s ++ [e] else Aj es s := by
 simp only [Aj,List.filter_append]
 split
 · rename_i h; simp [h]
 · rename_i h; simp [h]
theorem ByV.set {w w' w'' : World} {base bb n : Nat} {vs : List Value} {es : List Edge} (h : ByV w base bb n vs es) {e : Edge} {f : Nat} (hf : e.frm = (f : Int)) (hfn : f < n) {v' : Value} {n' : Nat} (hb : base ≤ bb)
 (hc : Chg (fun k => some k = (vs.getD f Ad).ownBlock) w w') (hv : w'.ownsRow base 67 4 v' n' ((Aj es f).flatMap Edge.cells ++ e.cells)) (hnew : ∀ g,v'.ownBlock = some g → (vs.getD f Ad).ownBlock = some g ∨ w.heap.size ≤ g)
 (hc2 : Chg (fun k => k = bb) w' w'') (hm : Own w'' bb 24 (vs.set f v')) : ByV w'' base bb n (vs.set f v') (es ++ [e]) := by
 refine ⟨by simp [h.len],hm,?_⟩
 have hi : ((List.range n).map fun (s : Nat) => (vs.getD s Ad,(Aj es s).flatMap Edge.cells))[f]? = some (vs.getD f Ad,(Aj es f).flatMap Edge.cells) := by simp [hfn]
 have hb1 := h.bag.set hi hc (fun b hb => .inl hb) hv hnew
 have heq : (List.range n).map (fun (s : Nat) => ((vs.set f v').getD s Ad,(Aj (es ++ [e]) s).flatMap Edge.cells)) = ((List.range n).map fun (s : Nat) => (vs.getD s Ad,(Aj es s).flatMap Edge.cells)).set f (v',(Aj es f).flatMap Edge.cells ++ e.cells) := by
  apply List.ext_getElem?
  intro i
  rw [List.getElem?_set]
  simp only [List.getElem?_map,List.length_map,List.length_range]
  by_cases hin : i < n
  · rw [List.getElem?_range hin]
    simp only [Option.map_some]
    rw [Vs,hf]
    by_cases hif : f = i
    · subst hif
      rw [if_pos rfl,if_pos rfl,if_pos hin]
      simp [h.len,hin]
    · rw [if_neg hif,if_neg (by omega)]
      simp [List.getElem?_set,hif]
  · rw [List.getElem?_eq_none (by simpa using hin)]
    by_cases hif : f = i
    · omega
    · rw [if_neg hif]; rfl
 rw [heq]
 have hm' : ∀ x ∈ ((List.range n).map fun (s : Nat) => (vs.getD s Ad,(Aj es s).flatMap Edge.cells)).set f (v',(Aj es f).flatMap Edge.cells ++ e.cells),x.1.ownBlock ≠ some bb := by
  refine hb1.ne (o := .cells vs.toArray 24 (0,0)) ?_ (fun cs fr hh => by injection hh with _ h2; exact absurd h2 (by decide))
  refine hc.heap h.mb fun he => ?_
  exact h.bag.ne h.mb (fun cs fr hh => by injection hh with _ h2; exact absurd h2 (by decide)) _ (List.mem_of_getElem? hi) he.symm
 exact hb1.chg hc2 fun x hx b hb2 hs => by subst hs; exact hm' x hx hb2
abbrev Ut (lo hi : Nat) := RowE (fun w cs (xs : List Edge) => ∃ u,cs = [u] ∧ C9 lo hi w u xs) 1 lo hi
theorem ByV.row {w : World} {base bb n : Nat} {vs : List Value} {es : List Edge} (h : ByV w base bb n vs es) (hb : base ≤ bb) (hwf : ∀ e ∈ es,e.wf) : Ut base w.heap.size w (.slice (some ⟨bb,0,none⟩) n n) ((List.range n).map fun (s : Nat) => Aj es s) := by
 have hlt := h.mb.lt
 refine Wp h.mb (fun i x hx => ?_) (by simp) (by simp) hb hlt
 rw [List.getElem?_map] at hx
 have hin : i < n := by
  rcases Nat.lt_or_ge i n with h1 | h1
  · exact h1
  · rw [List.getElem?_eq_none (by simpa using h1)] at hx; cases hx
 rw [List.getElem?_range hin] at hx
 simp only [Option.map_some,Option.some.injEq] at hx
 subst hx
 have hv : vs[i]? = some (vs.getD i Ad) := by simp [List.getD_eq_getElem?_getD,h.len,hin]
 obtain ⟨m,hm⟩ := h.bag.own (vs.getD i Ad,(Aj es i).flatMap Edge.cells) (List.mem_map.2 ⟨i,by simpa using hin,rfl⟩)
 exact ⟨_,hv,_,rfl,(Av (f := Edge.cells) (fun _ => rfl) hm (by decide)).and fun e he => hwf e (List.mem_filter.1 he).1⟩
structure RunV (lo hi : Nat) (w : World) (r : Nat) (g : General) (x : Word) (all : List Ag) : Prop where
 h : ∃ pv iv ev sv stv lov mn av nl,Own w r 189 [pv,.int .i64 g.states,iv,ev,sv,stv,lov,.map (some mn),av] ∧ lo ≤ r ∧ r < hi ∧ lo ≤ mn ∧ mn < hi ∧ GenV 0 hi w pv iv ev sv g ∧
  RowE (fun _ cs p => cs = Ao p) 2 0 hi w av all ∧ MapE prog 192 Bp (fun v : Value => v) w mn nl ∧ ∀ p ∈ all,RowE (fun _ cs p => cs = Ao p) 2 0 hi w (Ck nl Ad p) (succ g x p)
theorem Ys {w : World} {lo hi : Nat} {sv lv : Value} {x : Word} (hv : WordV lo hi w sv lv x) (i : Nat) (hi : i < 4611686018427387904) :
 Calls prog 125 [.agg #[sv,lv],.int .i64 i].toArray w (Bg fun r w' => r = .int .i64 (x.behind i) ∧ Kp w w') := by
 obtain ⟨a1,c1,rfl,-⟩ := hv.stem
 obtain ⟨a2,c2,rfl,-⟩ := hv.loop
 exact AaF a1 a2 c1 c2 x hv.ls hv.ll i hi
def M0 (all : List Ag) (p : Ag) : List Ag := if p ∈ all then all else all ++ [p]
theorem mem_putP {all : List Ag} {p q : Ag} : q ∈ M0 all p ↔ q ∈ all ∨ q = p := by
 unfold M0
 split
 · rename_i h
   exact ⟨.inl,fun h' => h'.elim id fun e => e ▸ h⟩
 · simp
theorem Vi {all : List Ag} {p : Ag} (h : all.Nodup) : (M0 all p).Nodup := by
 unfold M0
 split
 · exact h
 · rename_i hp
   rw [List.nodup_append]
   refine ⟨h,by simp,fun a ha b hb he => ?_⟩
   simp at hb
   exact hp (hb ▸ he ▸ ha)
theorem Xm {all : List Ag} {p : Ag} {i : Nat} (h : i ≤ all.length) : (M0 all p).take i = all.take i := by
 unfold M0
 split
 · rfl
 · rw [List.take_append_of_le_length h]
structure Reach (g : General) (x : Word) (i : Nat) (all : List Ag) : Prop where
 nodup : all.Nodup
 closed : ∀ p ∈ all.take i,∀ q ∈ succ g x p,q ∈ all
 least : ∀ X : Ag → Prop,(∀ s ∈ g.init,X (s,0)) → (∀ p q,X p → q ∈ succ g x p → X q) → ∀ p ∈ all,X p
theorem Reach.put {g : General} {x : Word} {i : Nat} {all : List Ag} {q : Ag} (h : Reach g x i all) (hi : i ≤ all.length) (hq : (∃ s ∈ g.init,q = (s,0)) ∨ ∃ p ∈ all,q ∈ succ g x p) : Reach g x i (M0 all q) :=
 ⟨Vi h.nodup,fun p hp a ha => mem_putP.2 (.inl (h.closed p (by rwa [Xm hi] at hp) a ha)),fun X h1 h2 p hp => by
   rcases mem_putP.1 hp with hp | rfl
   · exact h.least X h1 h2 p hp
   · rcases hq with ⟨s,hs,rfl⟩ | ⟨p',hp',hq⟩
     · exact h1 s hs
     · exact h2 _ _ (h.least X h1 h2 p' hp') hq⟩
theorem Reach.box {g : General} {x : Word} {i : Nat} {all : List Ag} (h : Reach g x i all) (hg : Good g) (hx : x.loop.length ≠ 0) : ∀ p ∈ all,Us g x p :=
 h.least _ (fun s hs => by
  have := hg.init s hs
  have := J3 hx
  exact ⟨by simp; omega,by simp; omega,by simp,by simp; omega⟩) (fun p q hp hq => Sr hg hx hp q hq)
theorem Reach.len {g : General} {x : Word} {i : Nat} {all : List Ag} (h : Reach g x i all) (hg : Good g) (hx : x.loop.length ≠ 0) (hP : x.places < 1048576) : all.length < 1099511627776 := by
 have h1 := Nl h.nodup hg (h.box hg hx)
 have h2 : g.states.toNat * x.places ≤ 65536 * 1048576 := Nat.mul_le_mul (by have := hg.s1; omega) (by omega)
 omega
def In (g : General) (x : Word) (dn : List Ag) (a : Ag) : List Ag := if a ∈ dn then succ g x a else []
def Kd (g : General) (x : Word) (dn : List Ag) (p : Ag) (sj : List Ag) (a : Ag) : List Ag := if a = p then sj else In g x dn a
theorem Yh (g : General) (x : Word) (dn : List Ag) (p : Ag) : Kd g x dn p (succ g x p) = In g x (dn ++ [p]) := by
 funext a
 unfold Kd In
 by_cases h : a = p
 · rw [if_pos h,if_pos (by simp [h]),h]
 · rw [if_neg h]
   simp [h]
abbrev AbX (w : World) (mn : Nat) (nl : List (Ag × Value)) := MapE prog 192 Bp (fun v : Value => v) w mn nl
structure RunS (w8 w : World) (base p9 p5 r ms mn : Nat) (cs : List Value) (av : Value) (all : List Ag) (nl : List (Ag × Value)) (F : Ag → List Ag) (pre : List (Value × List Value)) : Prop where
 put : PutV w base p9 p5 r ms mn cs av all (pre ++ nl.map fun a => (a.2,Hx (F a.1)))
 next : AbX w mn nl
 none : ∀ a,Bn nl a = none → F a = []
 chg : Chg (fun k => k = r ∨ k = mn) w8 w
 ne : mn ≠ ms
 low : w8.heap.size ≤ base ∧ w8.heap.size ≤ ms
theorem RunS.step {w8 w w' : World} {base p9 p5 r ms mn : Nat} {cs : List Value} {av av' : Value} {all all' : List Ag} {nl : List (Ag × Value)} {F : Ag → List Ag} {pre : List (Value × List Value)} (h : RunS w8 w base p9 p5 r ms mn cs av all nl F pre)
 (hp : PutV w' base p9 p5 r ms mn cs av' all' (pre ++ nl.map fun a => (a.2,Hx (F a.1)))) (hc : Chg (fun k => k = r ∨ k = ms ∨ some k = av.ownBlock) w w') : RunS w8 w' base p9 p5 r ms mn cs av' all' nl F pre := by
 obtain ⟨es,clock,hm,-⟩ := h.next.h
 refine ⟨hp,h.next.chg hc fun hh => ?_,h.none,h.chg.newT hc ?_,h.ne,h.low⟩
 · rcases hh with rfl | rfl | hh
   · rw [show w.heap[mn]? = _ from h.put.mr] at hm; cases hm
   · exact h.ne rfl
   · exact h.put.bag.ne hm (by simp) _ List.mem_cons_self hh.symm
 · rintro k (rfl | rfl | hk)
   · exact .inl (.inl rfl)
   · exact .inr h.low.2
   · have := h.put.bag.lt _ List.mem_cons_self k hk.symm
     have := h.low.1; exact .inr (by omega)
theorem PutV.kp {w w' : World} {base p9 p5 r ms mn : Nat} {cs : List Value} {av : Value} {all : List Ag} {L : List (Value × List Value)} (h : PutV w base p9 p5 r ms mn cs av all L) (k : Kp w w') : PutV w' base p9 p5 r ms mn cs av all L :=
 ⟨k.own h.m9 id,k.own h.m5 id,k.own h.mr id,h.len,h.seen.chg k id,h.bag.kp k,Nat.le_trans h.base k.size⟩
theorem RunS.kp {w8 w w' : World} {base p9 p5 r ms mn : Nat} {cs : List Value} {av : Value} {all : List Ag} {nl : List (Ag × Value)} {F : Ag → List Ag} {pre : List (Value × List Value)} (h : RunS w8 w base p9 p5 r ms mn cs av all nl F pre) (k : Kp w w') : RunS w8 w' base p9 p5 r ms mn cs av all nl F pre :=
 ⟨h.put.kp k,h.next.chg k id,h.none,h.chg.newT k fun _ hf => hf.elim,h.ne,h.low⟩
theorem RunS.row {w8 w : World} {base p9 p5 r ms mn : Nat} {cs : List Value} {av : Value} {all : List Ag} {nl : List (Ag × Value)} {F : Ag → List Ag} {pre : List (Value × List Value)} (h : RunS w8 w base p9 p5 r ms mn cs av all nl F pre) (p : Ag) : w.ownsRow base 192 2 (Ck nl Ad p) (F p).length (Hx (F p)) := by
 obtain ⟨n,hn⟩ := Bag.lookRow (pre := (av,Hx all) :: pre) (F := fun a => Hx (F a)) h.put.bag (fun a ha => by rw [h.none a ha]; rfl) p
 have : n = (F p).length := by
  have := hn.1
  simp only [Hx] at this
  rw [An (size := 2) (fun x => rfl)] at this
  omega
 rwa [this] at hn
theorem RunS.next_ {w8 w w' : World} {base p9 p5 r ms mn : Nat} {cs : List Value} {av v' : Value} {all : List Ag} {nl : List (Ag × Value)} {F : Ag → List Ag} {pre : List (Value × List Value)} {p q : Ag} {n' : Nat} (h : RunS w8 w base p9 p5 r ms mn cs av all nl F pre)
 (hc : Chg (fun b => b = mn ∨ some b = (Ck nl Ad p).ownBlock) w w') (hm : AbX w' mn (aput nl p v')) (hrow : w'.ownsRow base 192 2 v' n' (Hx (F p) ++ Ao q)) (hnew : ∀ g,v'.ownBlock = some g → (Ck nl Ad p).ownBlock = some g ∨ w.heap.size ≤ g) :
 RunS w8 w' base p9 p5 r ms mn cs av all (aput nl p v') (fun a => if a = p then F p ++ [q] else F a) pre := by
 have hold := h.row p
 obtain ⟨es,clock,hmn,-⟩ := h.next.h
 obtain ⟨es2,clock2,hms,-⟩ := h.put.seen.h
 have hcell : ∀ {b t cs},Own w b t cs → t ≠ 192 → Own w' b t cs := fun {b t cs} ho ht => hc.own ho fun hk => by
  rcases hk with hk | hk
  · exact h.next.ne ho hk
  · exact Ai hold ho (fun cs fr hh => by injection hh with _ h2; exact ht h2) hk.symm
 refine ⟨⟨hcell h.put.m9 (by decide),hcell h.put.m5 (by decide),hcell h.put.mr (by decide),h.put.len,h.put.seen.chg hc ?_,?_,Nat.le_trans h.put.base hc.size⟩,hm,?_,h.chg.newT hc ?_,h.ne,h.low⟩
 · rintro (hk | hk)
   · exact h.ne hk.symm
   · exact Ai hold hms (by simp) hk.symm
 · have hb := Bag.aput (pre := (av,Hx all) :: pre) (F := fun a => Hx (F a)) (x := p) (xs' := Hx (F p) ++ Ao q) h.next.nodup h.put.bag hc (fun b hb => ?_) hrow hnew
   · have heq : (fun a : Ag × Value => (a.2,Hx (if a.1 = p then F p ++ [q] else F a.1))) = fun a => (a.2,if a.1 = p then Hx (F p) ++ Ao q else Hx (F a.1)) := by
      funext a
      split
      · rw [Qp]
      · rfl
     rw [heq]
     exact hb
   · rcases hb with rfl | hb
     · exact .inr (h.put.bag.ne hmn (by simp))
     · exact .inl hb
 · intro a ha
   rw [Pf] at ha
   by_cases hap : a = p
   · subst hap
     rw [if_pos rfl] at ha
     cases ha
   · rw [if_neg (Ne.symm hap)] at ha
     rw [if_neg hap]
     exact h.none a ha
 · rintro k (hk | hk)
   · exact .inl (.inr hk)
   · have := (hold.lt k hk.symm).1
     have := h.low.1
     exact .inr (by omega)
set_option maxHeartbeats 4000000 in
theorem AaE {w : World} {pv iv ev sv stv lov : Value} {g : General} {x : Word} (hv : GenV 0 w.heap.size w pv iv ev sv g) (hw : WordV 0 w.heap.size w stv lov x) (hg : Good g) (hx : x.loop.length ≠ 0)
 (hE : g.edges.length < 1099511627776) (hP : x.places < 1048576) :
 Calls prog 104 [.agg #[pv,.int .i64 g.states,iv,ev,sv],.agg #[stv,lov]].toArray w (Bg fun v w' => Kp w w' ∧ ∃ r all,v = pt r 0 ∧ AllOf g x all ∧ RunV w.heap.size w'.heap.size w' r g x all) := by
 obtain ⟨ea,ec,he,hec,hedges⟩ := id hv.edges
 obtain ⟨ia,ic,hi,hic,hinit⟩ := id hv.init
 subst he hi
 refine call Aa func104 rfl ntmps104 (by kernel_rfl) ?_
 refine nd fun p2 w1 e1 s1 k1 m1 => ?_
 have m2 : Own w1 p2 27 [pv,.int .i64 g.states,.slice ia g.init.length ic,.slice ea g.edges.length ec,sv] := m1
 refine nd fun p3 w2 e2 s2 k2 m3 => ?_
 have m3 : Own w2 p3 33 [stv,lov] := m3
 have m2 := k2.own m2 id
 refine ld Aa (v := .agg #[pv,.int .i64 g.states,.slice ia g.init.length ic,.slice ea g.edges.length ec,sv]) (Own.at_ (xs := [pv,.int .i64 g.states,.slice ia g.init.length ic,.slice ea g.edges.length ec,sv]) (o := 0) m2 rfl) (by rfl) ?_
 refine ld Aa (v := .agg #[stv,lov]) (Own.at_ (xs := [stv,lov]) (o := 0) m3 rfl) (by rfl) ?_
 refine nd fun mn w3 e3 s3 k3 mmn => ?_
 refine nd fun r w4 e4 s4 k4 mr => ?_
 have mr : Own w4 r 189 [pv,.int .i64 g.states,.slice ia g.init.length ic,.slice ea g.edges.length ec,sv,stv,lov,.map (some mn),Ad] := mr
 refine nd fun p5 w5 e5 s5 k5 m5 => ?_
 have m5 : Own w5 p5 168 [.pointer none] := m5
 refine st Aa m5 rfl (Nat.le_refl 1) rfl ?_
 intro w6 s6 k6 m6
 have m6 : Own w6 p5 168 [pt r 0] := m6
 have k16 : Kp w1 w6 := k2.trans (k3.trans (k4.trans (k5.new e5 k6)))
 have k26 : Kp w2 w6 := k3.trans (k4.trans (k5.new e5 k6))
 have k36 : Kp w3 w6 := k4.trans (k5.new e5 k6)
 have k46 : Kp w4 w6 := k5.new e5 k6
 refine ld Aa (Own.at_ (xs := [.int .i64 g.states]) (k26.own m2 id) rfl) (by rfl) ?_
 have h0 := hg.s0
 have h1 := hg.s1
 refine ms Aa rfl rfl rfl rfl rfl rfl h0 (Int.le_refl _) (by show (24 : Int) * _ ≤ _; omega) (by omega) fun bb w7 e7 s7 k7 m7 => ?_
 obtain ⟨n,hn⟩ : ∃ n : Nat,g.states = n := ⟨g.states.toNat,by omega⟩
 have m7 : Own w7 bb 24 (Ic [Ad] g.states.toNat) := m7
 rw [hn,Int.toNat_natCast] at m7
 have k27 : Kp w2 w7 := k26.trans k7
 have k17 : Kp w1 w7 := k16.trans k7
 refine ld Aa (Own.at_ (xs := [.slice ea g.edges.length ec]) (k27.own m2 id) rfl) (by rfl) ?_
 have hrep : ∀ n,Ic [Ad] n = List.replicate n Ad := by
  intro n
  induction n with
  | zero => rfl
  | succ n ih => simp [Ic,ih,List.replicate_succ]
 have hby0 : ByV w7 bb bb n (Ic [Ad] n) [] := by
  refine ⟨by simp [hrep],m7,⟨fun y hy => ?_,?_⟩⟩
  · obtain ⟨s,hs,rfl⟩ := List.mem_map.1 hy
    refine ⟨0,?_⟩
    simp only [hrep,Aj,List.filter_nil,List.flatMap_nil]
    have : (List.replicate n Ad).getD s Ad = Ad := by simp [List.getD_eq_getElem?_getD,List.getElem?_replicate]; split <;> rfl
    rw [this]
    exact World.ownsRow_nil _ _ _ _
  · rw [List.pairwise_map]
    refine List.pairwise_of_forall fun a b c hc => ?_
    have : (Ic [Ad] n).getD a Ad = Ad := by simp [hrep,List.getD_eq_getElem?_getD,List.getElem?_replicate]; split <;> rfl
    simp only [this,Value.ownBlock] at hc
    cases hc
 have k67 : Kp w6 w7 := k7
 refine loop Aa (σ := Nat × List Value) (fun t => [(2,pt p2 0),(3,pt p3 0),(5,pt p5 0),(6,.slice (some ⟨bb,0,none⟩) n n),(27,.slice ea g.edges.length ec),(28,.int .i64 g.edges.length),(29,.int .i64 t.1)])
  (fun t w' => t.1 ≤ g.edges.length ∧ Kp w6 w' ∧ ByV w' bb bb n t.2 (g.edges.take t.1)) (fun t => g.edges.length - t.1) (0,Ic [Ad] n)
  ⟨rfl,rfl,rfl,?_,rfl,rfl,rfl,trivial⟩ ⟨by omega,k67,by simpa using hby0⟩ ?_
 · show Value.slice _ g.states.toNat g.states.toNat = _
   rw [hn,Int.toNat_natCast]
 rintro ⟨i,vs⟩ env w8 ⟨hi,k68,hby⟩
 have k18 : Kp w1 w8 := k16.trans k68
 refine sp (fun hlt => ?_) (fun hge => ?_)
 · have hi' : i < g.edges.length := by simp only at hlt; omega
   obtain ⟨b,o,rfl,hlo,hhi,cs,hcs,hrd,rfl,hwf⟩ := hedges i g.edges[i] (by simp)
   have her := hg.edges g.edges[i] (by simp)
   obtain ⟨f,hf⟩ : ∃ f : Nat,g.edges[i].frm = f := ⟨g.edges[i].frm.toNat,by omega⟩
   have hfn : f < n := by omega
   refine ne ⟨by omega,hlt⟩ ?_
   refine ld Aa (v := g.edges[i].val) ((k1.trans k18).range hrd id) rfl ?_
   refine nd fun q w9 e9 s9 k9 m9 => ?_
   refine st Aa (cs := [.int .i64 0,.int .i64 0,.int .u16 0,.int .u16 0]) m9 rfl (Nat.le_refl 4) rfl ?_
   intro w10 s10 k10 m10
   have m10 : Own w10 q 67 g.edges[i].cells := m10
   have k810 : Kp w8 w10 := k9.new e9 k10
   have hmb := k810.own hby.mb id
   have hbag := hby.bag.kp k810
   obtain ⟨m,hrow⟩ := hbag.own (vs.getD f Ad,(Aj (g.edges.take i) f).flatMap Edge.cells) (List.mem_map.2 ⟨f,by simpa using hfn,rfl⟩)
   have hm : m = (Aj (g.edges.take i) f).length := by
    have := hrow.1
    rw [An (size := 4) (fun e => rfl)] at this
    omega
   subst hm
   have hml : (Aj (g.edges.take i) f).length ≤ i := by
    have h1 := List.length_filter_le (fun e : Edge => decide (e.frm = (f : Int))) (g.edges.take i)
    simp only [List.length_take] at h1
    unfold Aj
    omega
   have hltB : ∀ k,(vs.getD f Ad).ownBlock = some k → k < w10.heap.size := fun k hk => (hrow.lt k hk).2
   have hltB8 : ∀ k,(vs.getD f Ad).ownBlock = some k → k < w8.heap.size := fun k hk => (hby.bag.lt _ (List.mem_map.2 ⟨f,by simpa using hfn,rfl⟩) k hk).2
   have hnq : some q ≠ (vs.getD f Ad).ownBlock := fun he => by have := hltB8 q he.symm; omega
   have hnb : some bb ≠ (vs.getD f Ad).ownBlock := fun he => Ai hrow hmb (fun cs fr hh => by injection hh with _ h2; exact absurd h2 (by decide)) he.symm
   have hvf : vs[f]? = some (vs.getD f Ad) := by simp [List.getD_eq_getElem?_getD,hby.len,hfn]
   obtain ⟨va,vc,hvs⟩ := Ae hrow
   have hpre := Ek w10 (vs.getD f Ad) ((Aj (g.edges.take i) f).length * 4) g.edges[i].cells
   refine Dg Aa mixed 12 (by kernel_rfl) _ hpre ?_
   conv => whnf
   refine Gy hpre Aa rfl rfl (fun W h _ => h.chg.range (Own.at_ (xs := [.int .i64 g.edges[i].frm]) m10 rfl) hnq) (by rfl) fun _ => ?_
   conv => whnf
   refine Gy hpre Aa rfl rfl (fun W h _ => h.chg.range (Own.at_ (xs := [.int .i64 g.edges[i].frm]) m10 rfl) hnq) (by rfl) fun _ => ?_
   conv => whnf
   refine ne ⟨by omega,by omega⟩ ?_
   conv => whnf
   refine Gy (v := vs.getD f Ad) hpre Aa rfl rfl (fun W h _ => h.chg.range (Own.one hmb hvf (by show 0 + g.edges[i].frm.toNat * 1 = f; omega)) hnb) (by rfl) fun _ => ?_
   conv => whnf
   refine Gy (v := g.edges[i].val) hpre Aa rfl rfl (fun W h _ => h.chg.range (Own.at_ (xs := g.edges[i].cells) (o := 0) m10 rfl) hnq) (by rfl) fun _ => ?_
   conv => whnf
   refine Uh hpre rfl rfl rfl rfl rfl (by decide) (fun b o W W' hb ho hS => hS.chg.heap ho fun hc => by have := hltB b hc.symm; omega) (fun W hS => hS.chg.size) fun q2 D hD => ?_
   conv => whnf
   refine apr (m := 1) (news := g.edges[i].cells) Aa rfl rfl rfl rfl rfl rfl rfl (by decide) hrow rfl (fun W hS hDn => Own.at_ (xs := g.edges[i].cells) (o := 0) (hD W (hDn 9 (by kernel_rfl))).1 rfl) rfl (by simp only [maxLen]; omega) (by show (_ + 1) * 24 ≤ _; omega) (by have := k810.size; have := hby.mb.lt; omega) fun v' D2 hD2 => ?_
   conv => whnf
   refine ne ⟨by omega,by omega⟩ ?_
   conv => whnf
   intro W hS hDn
   obtain ⟨hown',hnew⟩ := hD2 W (hDn 10)
   have hmbW := hS.chg.own hmb hnb
   obtain ⟨a',cap',rfl⟩ := Ae hown'
   refine st Aa hmbW (by rfl) ?_ rfl ?_
   · show 0 + g.edges[i].frm.toNat * 1 + 1 ≤ vs.length
     rw [hby.len]; omega
   intro w11 s11 k11 m11
   refine aw (by omega) (by omega) ?_
   have hby' : ByV w8 bb bb n vs (g.edges.take i) := hby
   have hlay : Gk vs (0 + g.edges[i].frm.toNat * 1) (Bc (.slice a' ((Aj (g.edges.take i) f).length + 1) cap')) = vs.set f (.slice a' ((Aj (g.edges.take i) f).length + 1) cap') := by
    show vs.set (0 + g.edges[i].frm.toNat * 1) _ = _
    rw [show 0 + g.edges[i].frm.toNat * 1 = f by omega]
   have m11 : Own w11 bb 24 (vs.set f (.slice a' ((Aj (g.edges.take i) f).length + 1) cap')) := by rw [← hlay]; exact m11
   have hby10 : ByV w10 bb bb n vs (g.edges.take i) := ⟨hby.len,hmb,hbag⟩
   have hby11 := hby10.set hf hfn (Nat.le_refl _) hS.chg hown' hnew k11 m11
   refine again (i + 1,vs.set f (.slice a' ((Aj (g.edges.take i) f).length + 1) cap')) ⟨rfl,rfl,rfl,rfl,rfl,rfl,rfl,trivial⟩ ⟨by simp only; omega,?_,?_⟩ (by simp only; omega)
   · refine Chg.newS (T := fun k => k = bb ∨ some k = (vs.getD f Ad).ownBlock) (k68.trans k810) ((hS.chg.mono fun _ => .inr).trans (k11.mono fun _ => .inl)) fun k hk => ?_
     rcases hk with rfl | hk
     · omega
     · have := (hbag.lt _ (List.mem_map.2 ⟨f,by simpa using hfn,rfl⟩) k hk.symm).1
       omega
   · rw [show g.edges.take (i + 1) = g.edges.take i ++ [g.edges[i]] by simp]
     exact hby11
 have hall : g.edges.take i = g.edges := List.take_of_length_le (by simp only at hge; omega)
 rw [hall] at hby
 have hwf : ∀ e ∈ g.edges,e.wf := fun e he => by
  obtain ⟨j,hj,rfl⟩ := List.getElem_of_mem he
  obtain ⟨b,o,_,_,_,cs,_,_,_,hwf⟩ := hedges j g.edges[j] (by simp)
  exact hwf
 have hrows := hby.row (Nat.le_refl _) hwf
 have k28 : Kp w2 w8 := k26.trans k68
 refine nd fun ms w9 e9 s9 k9 mms => ?_
 refine nd fun p9 w10 e10 s10 k10 m9 => ?_
 have m9 : Own w10 p9 190 [.map none] := m9
 refine st Aa m9 rfl (Nat.le_refl 1) rfl ?_
 intro w11 s11 k11 m11
 have m9 : Own w11 p9 190 [.map (some ms)] := m11
 have k8b : Kp w8 w11 := k9.trans (k10.new e10 k11)
 refine ld Aa (Own.at_ (xs := [.slice ia g.init.length ic]) ((k28.trans k8b).own m2 id) rfl) (by rfl) ?_
 have hput0 : RunS w8 w11 w11.heap.size p9 p5 r ms mn [pv,.int .i64 g.states,.slice ia g.init.length ic,.slice ea g.edges.length ec,sv,stv,lov] Ad [] [] (fun _ => []) [] := by
  have k9b : Kp w9 w11 := k10.new e10 k11
  refine ⟨⟨m9,k8b.own (k68.own m6 id) id,k8b.own (k68.own (k46.own mr id) id) id,rfl,(MapE.made mms Ej).chg k9b id,?_,Nat.le_refl _⟩,(((MapE.made mmn Ej).chg k36 id).chg k68 id).chg k8b id,fun _ _ => rfl,k8b.mono fun _ hf => hf.elim,?_,?_⟩
  · exact (Bag.nil).consNil
  · have := Am mmn; have := k36.size; have := k68.size; omega
  · exact ⟨k8b.size,by omega⟩
 refine loop Aa (σ := Nat × Value × List Ag) (fun t => [(3,pt p3 0),(5,pt p5 0),(6,.slice (some ⟨bb,0,none⟩) n n),(10,.func (.func 122) #[] #[pt p9 0,pt p5 0]),(49,.slice ia g.init.length ic),(50,.int .i64 g.init.length),(51,.int .i64 t.1)])
  (fun t w' => t.1 ≤ g.init.length ∧ Reach g x 0 t.2.2 ∧ (∀ s ∈ g.init.take t.1,(s,0) ∈ t.2.2) ∧ RunS w8 w' w11.heap.size p9 p5 r ms mn [pv,.int .i64 g.states,.slice ia g.init.length ic,.slice ea g.edges.length ec,sv,stv,lov] t.2.1 t.2.2 [] (fun _ => []) []) (fun t => g.init.length - t.1) (0,Ad,[])
  ⟨rfl,rfl,rfl,rfl,rfl,rfl,rfl,trivial⟩ ⟨by omega,⟨by simp,by simp,by simp⟩,by simp,hput0⟩ ?_
 rintro ⟨j,av,all⟩ env2 w12 ⟨hj,hR,hinj,hS⟩
 have hlow := hS.low
 have hli := hv.li
 have keep : ∀ {W b t cs},Chg (fun k => k = r ∨ k = mn) w8 W → Own w8 b t cs → b ≠ r → b ≠ mn → Own W b t cs := fun h m h1 h2 => h.own m fun hh => hh.elim h1 h2
 refine sp (fun hlt => ?_) (fun hge2 => ?_)
 · have hj' : j < g.init.length := by simp only at hlt; omega
   obtain ⟨b,o,rfl,hlo,hhi,cs,hcs,hrd,rfl⟩ := hinit j g.init[j] (by simp)
   have hir := hg.init g.init[j] (by simp)
   refine ne ⟨by omega,hlt⟩ ?_
   have hn12 : ∀ k,k < w.heap.size → ¬ (k = r ∨ k = mn) := fun k hk => by
    have := k1.size; have := k2.size; have := Am mmn; omega
   refine ld Aa (hS.chg.range ((k1.trans (k16.trans k68)).range hrd id) (hn12 _ hhi)) (by rfl) ?_
   have hbx : G7 ((g.init[j],0) : Ag).1 ∧ G7 ((g.init[j],0) : Ag).2 := ⟨⟨by simp; omega,by simp; omega⟩,⟨by simp,by simp⟩⟩
   have hlen := hR.len hg hx hP
   have hcall := AbN hS.put hbx.1 hbx.2 hlen
   refine cl Xd hcall ?_
   rintro v' w13 ⟨av',hp',hc',hnew'⟩
   refine aw (by omega) (by omega) ?_
   refine again (j + 1,av',M0 all (g.init[j],0)) ⟨rfl,rfl,rfl,rfl,rfl,rfl,rfl,trivial⟩ ⟨by simp only; omega,hR.put (Nat.zero_le _) (.inl ⟨_,by simp,rfl⟩),?_,hS.step hp' hc'⟩ (by simp only; omega)
   intro s hs
   rw [show g.init.take (j + 1) = g.init.take j ++ [g.init[j]] by simp] at hs
   rcases List.mem_append.1 hs with hs | hs
   · exact mem_putP.2 (.inl (hinj s hs))
   · simp at hs
     exact mem_putP.2 (.inr (by rw [hs]))
 have hinit0 : ∀ s ∈ g.init,(s,0) ∈ all := by
  rw [List.take_of_length_le (by simp only at hge2; omega)] at hinj
  exact hinj
 have hrows8 : Ut bb w8.heap.size w8 (.slice (some ⟨bb,0,none⟩) n n) ((List.range n).map fun (s : Nat) => Aj g.edges s) := hrows
 have hkeys : ∀ {W},Chg (fun k => k = r ∨ k = mn) w8 W → ∀ {lo v es},bb ≤ lo → C9 lo w8.heap.size w8 v es → C9 lo w8.heap.size W v es := fun h _ _ _ hlo hr => hr.chg h (fun k h1 h2 hh => by
  have := Am mmn; have := mr.lt; have := k46.size; omega) (fun _ _ h => h)
 have hF0 : (fun _ : Ag => ([] : List Ag)) = In g x (all.take 0) := by funext a; simp [In]
 rw [hF0] at hS
 refine loop Aa (σ := Nat × Value × List Ag × List (Ag × Value)) (fun t => [(3,pt p3 0),(5,pt p5 0),(6,.slice (some ⟨bb,0,none⟩) n n),(10,.func (.func 122) #[] #[pt p9 0,pt p5 0]),(13,.int .i64 t.1)])
  (fun t w' => t.1 ≤ t.2.2.1.length ∧ Reach g x t.1 t.2.2.1 ∧ (∀ s ∈ g.init,(s,0) ∈ t.2.2.1) ∧ RunS w8 w' w11.heap.size p9 p5 r ms mn [pv,.int .i64 g.states,.slice ia g.init.length ic,.slice ea g.edges.length ec,sv,stv,lov] t.2.1 t.2.2.1 t.2.2.2 (In g x (t.2.2.1.take t.1)) [])
  (fun t => g.states.toNat * x.places - t.1) (0,av,all,[])
  ⟨rfl,rfl,rfl,rfl,rfl,trivial⟩ ⟨by omega,hR,hinit0,hS⟩ ?_
 clear hS hR hinit0 hinj hF0 hge2 keep
 rintro ⟨i,av,all,nl⟩ env3 w14 ⟨hi,hR,hI,hS⟩
 simp only at hi hR hI hS
 have hlen := hR.len hg hx hP
 obtain ⟨ma,hav⟩ := hS.put.bag.own _ List.mem_cons_self
 obtain ⟨ava,avc,rfl⟩ := Ae hav
 have hma : ma = all.length := by
  have := hav.1
  simp only [Hx] at this
  rw [An (size := 2) (fun x => rfl)] at this
  omega
 subst hma
 refine ld Aa (Own.at_ (xs := [pt r 0]) hS.put.m5 rfl) (by rfl) ?_
 refine ld Aa (Own.at_ (xs := [.slice ava all.length avc]) hS.put.mr rfl) (by rfl) ?_
 refine sp (fun hlt => ?_) (fun hge2 => ?_)
 · have hi' : i < all.length := by omega
   have hbox := hR.box hg hx all[i] (by simp)
   obtain ⟨hb1,hb2,hb3,hb4⟩ := hbox
   obtain ⟨f,hf⟩ : ∃ f : Nat,all[i].1 = f := ⟨all[i].1.toNat,by omega⟩
   obtain ⟨at_,hat⟩ : ∃ a : Nat,all[i].2 = a := ⟨all[i].2.toNat,by omega⟩
   have hav' := Av (f := Ao) (fun _ => rfl) hav (by decide)
   obtain ⟨a',c',he',hcap',hread⟩ := hav'
   obtain ⟨b,o,rfl,hlo,hhi,cs,hcs,hrd,rfl⟩ := hread i all[i] (by simp)
   have he1 := (Value.slice.inj he').1
   have he3 := (Value.slice.inj he').2.2
   subst he1 he3
   refine ld Aa (Own.at_ (xs := [pt r 0]) hS.put.m5 rfl) (by rfl) ?_
   refine ld Aa (Own.at_ (xs := [.slice (some ⟨b,o,none⟩) all.length avc]) hS.put.mr rfl) (by rfl) ?_
   refine ne ⟨by omega,hlt⟩ ?_
   refine ld Aa (v := Bp all[i]) hrd rfl ?_
   refine nd fun p14 w15 e15 s15 k15 m15 => ?_
   refine st Aa (cs := [.int .i64 0,.int .i64 0]) m15 rfl (Nat.le_refl 2) rfl ?_
   intro w16 s16 k16' m16
   have m14 : Own w16 p14 192 (Ao all[i]) := m16
   have kin : Kp w14 w16 := k15.new e15 k16'
   refine ld Aa (Own.at_ (xs := [.int .i64 all[i].1]) m14 rfl) (by rfl) ?_
   refine ne ⟨by omega,by omega⟩ ?_
   obtain ⟨_,_,hrowE,_,hrowsE⟩ := id hrows8
   have h1 := (Value.slice.inj hrowE).1
   subst h1
   obtain ⟨b2,o2,hbo,hlo2,hhi2,cs2,hcs2,hrd2,u,rfl,hu⟩ := hrowsE f (Aj g.edges f) (by rw [List.getElem?_map,List.getElem?_range (by omega)]; rfl)
   have hbo1 : bb = b2 := congrArg Addr.block (Option.some.inj hbo)
   have hbo2 : 0 = o2 := congrArg Addr.off (Option.some.inj hbo)
   subst hbo1 hbo2
   have hCw : Chg (fun k => k = r ∨ k = mn) w8 w16 := hS.chg.newT kin fun _ hf => hf.elim
   have hlo8 : ∀ k,bb ≤ k → ¬ (k = r ∨ k = mn) := fun k hk => by
    have := Am mmn; have := mr.lt; have := k46.size; omega
   refine ld Aa (v := u) (hCw.range (by have := hrd2; rw [show 0 + f * 1 = 0 + all[i].1.toNat * 1 by omega] at this; exact this) (hlo8 _ hlo2)) (by rfl) ?_
   obtain ⟨ua,uc,rfl,huc,hel⟩ := id hu
   have hesl : (Aj g.edges f).length ≤ g.edges.length := List.length_filter_le _ _
   have hnin : all[i] ∉ all.take i := fun hm => by
    obtain ⟨k,hk,he⟩ := List.getElem_of_mem hm
    have hk' : k < i := by simp at hk; omega
    rw [List.getElem_take] at he
    exact absurd ((List.nodup_iff_pairwise_ne.1 hR.nodup |> List.pairwise_iff_getElem.1) k i (by omega) hi' hk' ) (by simpa using he)
   have hS0 : RunS w8 w16 w11.heap.size p9 p5 r ms mn [pv,.int .i64 g.states,.slice ia g.init.length ic,.slice ea g.edges.length ec,sv,stv,lov] (.slice (some ⟨b,o,none⟩) all.length avc) all nl (Kd g x (all.take i) all[i] []) [(.slice (some ⟨p14,0,none⟩) 1 1,Ao all[i])] := by
    have h := hS.kp kin
    have hFF : Kd g x (all.take i) all[i] [] = In g x (all.take i) := by
     funext a
     by_cases ha : a = all[i]
     · subst ha; simp [Kd,In,hnin]
     · simp [Kd,ha]
    rw [hFF]
    refine ⟨⟨h.put.m9,h.put.m5,h.put.mr,h.put.len,h.put.seen,?_,h.put.base⟩,h.next,h.none,h.chg,h.ne,h.low⟩
    have hlow := hS.put.base
    refine Bag.perm ?_ (List.Perm.swap _ _ _)
    refine h.put.bag.cons (Rs m14 rfl (by omega)) fun b hb y hy he => ?_
    simp only [Value.ownBlock,Option.some.injEq] at hb
    have := (hS.put.bag.lt y hy b he).2
    omega
   refine loop Aa (σ := Nat × Value × List Ag × List (Ag × Value)) (fun t => [(3,pt p3 0),(5,pt p5 0),(6,.slice (some ⟨bb,0,none⟩) n n),(10,.func (.func 122) #[] #[pt p9 0,pt p5 0]),(13,.int .i64 i),(14,pt p14 0),(80,.slice ua (Aj g.edges f).length uc),(81,.int .i64 (Aj g.edges f).length),(82,.int .i64 t.1)])
    (fun t w' => t.1 ≤ (Aj g.edges f).length ∧ Reach g x i t.2.2.1 ∧ (∃ more,t.2.2.1 = all ++ more) ∧ RunS w8 w' w11.heap.size p9 p5 r ms mn [pv,.int .i64 g.states,.slice ia g.init.length ic,.slice ea g.edges.length ec,sv,stv,lov] t.2.1 t.2.2.1 t.2.2.2 (Kd g x (all.take i) all[i] (Ct ((Aj g.edges f).take t.1) x at_)) [(.slice (some ⟨p14,0,none⟩) 1 1,Ao all[i])] ∧
      ∀ q ∈ Ct ((Aj g.edges f).take t.1) x at_,q ∈ t.2.2.1)
    (fun t => (Aj g.edges f).length - t.1) (0,.slice (some ⟨b,o,none⟩) all.length avc,all,nl)
    ⟨rfl,rfl,rfl,rfl,rfl,rfl,rfl,rfl,rfl,trivial⟩ ⟨by omega,hR,⟨[],by simp⟩,by simpa [Ct] using hS0,by simp [Ct]⟩ ?_
   rintro ⟨j,av2,all2,nl2⟩ env4 w17 ⟨hj2,hR2,⟨more,hmore⟩,hS2,hq2⟩
   simp only at hj2 hR2 hmore hS2 hq2
   subst hmore
   refine sp (fun hlt2 => ?_) (fun hge3 => ?_)
   · have hj' : j < (Aj g.edges f).length := by omega
     obtain ⟨e,he⟩ : ∃ e,e = (Aj g.edges f)[j] := ⟨_,rfl⟩
     have hej : (Aj g.edges f)[j]? = some e := by rw [he]; simp
     obtain ⟨b3,o3,rfl,hlo3,hhi3,cs3,hcs3,hrd3,rfl,hwf3⟩ := hel j e hej
     have heg : e ∈ g.edges := (List.mem_filter.1 (List.mem_of_getElem? hej)).1
     have hefr : e.frm = f := by have := (List.mem_filter.1 (List.mem_of_getElem? hej)).2; simpa using this
     have heto := hg.edges e heg
     refine ne ⟨by omega,hlt2⟩ ?_
     refine ld Aa (v := e.val) (hS2.chg.range hrd3 (hlo8 _ hlo3)) (by rfl) ?_
     refine nd fun p16 w18 e18 s18 k18' m18 => ?_
     refine st Aa (cs := [.int .i64 0,.int .i64 0,.int .u16 0,.int .u16 0]) m18 rfl (Nat.le_refl 4) rfl ?_
     intro w19 s19 k19 m19
     have m16 : Own w19 p16 67 e.cells := m19
     have kin2 : Kp w17 w19 := k18'.new e18 k19
     have k019 : Kp w w19 := ((k1.trans (k16.trans k68)).newS hS2.chg (fun k hk => by have := k1.size; have := k2.size; have := Am mmn; omega)).trans kin2
     have m3' : Own w19 p3 33 [stv,lov] := kin2.own (hS2.chg.own ((k28).own m3 id) (fun hk => by omega)) id
     have hb14 : Own w17 p14 192 (Ao all[i]) := by
      obtain ⟨nn,hnn⟩ := hS2.put.bag.own (.slice (some ⟨p14,0,none⟩) 1 1,Ao all[i]) (by simp)
      have : nn = 1 := by have := hnn.1; simp [Ao] at this; omega
      subst this
      exact Rq hnn
     have m14' : Own w19 p14 192 (Ao all[i]) := kin2.own hb14 id
     have A3 : ∀ W,Kp w19 W → Own W p3 33 [stv,lov] := fun W h => h.own m3' id
     have A14 : ∀ W,Kp w19 W → Own W p14 192 (Ao all[i]) := fun W h => h.own m14' id
     have A16 : ∀ W,Kp w19 W → Own W p16 67 e.cells := fun W h => h.own m16 id
     have hatl : at_ < 4611686018427387904 := by omega
     refine Gn Aa mixed 6 [1,2,3,4,0,5] (by kernel_rfl) ?_
     conv => whnf
     refine A7 (v := .agg #[stv,lov]) Aa rfl rfl (fun W h _ => Own.at_ (xs := [stv,lov]) (o := 0) (A3 W h) rfl) (by rfl) fun _ => ?_
     conv => whnf
     refine A7 (v := .int .i64 at_) Aa rfl rfl (fun W h _ => Own.at_ (xs := [.int .i64 at_]) (A14 W h) (by show [Value.int .i64 all[i].2] = _; rw [hat])) (by rfl) fun _ => ?_
     conv => whnf
     refine Co (v := .int .u16 (x.at at_)) rfl rfl rfl AcE (fun W h _ => AjB (hw.chg (k019.trans h) (Nat.le_refl _) (Nat.le_refl _)) at_ hatl) fun _ => ?_
     conv => whnf
     refine A7 (v := e.val) Aa rfl rfl (fun W h _ => Own.at_ (xs := e.cells) (o := 0) (A16 W h) rfl) (by rfl) fun _ => ?_
     conv => whnf
     refine Co (v := .bool (Hk e (x.at at_))) rfl rfl rfl AaA (fun W h _ => AcA W e (x.at at_)) fun _ => ?_
     conv => whnf
     intro W20 k20 _
     have htake : (Aj g.edges f).take (j + 1) = (Aj g.edges f).take j ++ [e] := by rw [he]; simp
     cases hgo : Hk e (x.at at_) with
     | false =>
      refine aw (by omega) (by omega) ?_
      have hsucc : Ct ((Aj g.edges f).take (j + 1)) x at_ = Ct ((Aj g.edges f).take j) x at_ := by
       rw [htake]
       simp [Ct,hgo]
      refine again (j + 1,av2,all ++ more,nl2) ⟨rfl,rfl,rfl,rfl,rfl,rfl,rfl,rfl,rfl,trivial⟩ ⟨by simp only; omega,hR2,⟨more,rfl⟩,?_,?_⟩ (by simp only; omega)
      · simp only [hsucc]
        exact hS2.kp (kin2.trans k20)
      · simp only [hsucc]
        exact hq2
     | true =>
      have B3 : ∀ W,Kp W20 W → Own W p3 33 [stv,lov] := fun W h => A3 W (k20.trans h)
      have B14 : ∀ W,Kp W20 W → Own W p14 192 (Ao all[i]) := fun W h => A14 W (k20.trans h)
      have B16 : ∀ W,Kp W20 W → Own W p16 67 e.cells := fun W h => A16 W (k20.trans h)
      refine Gn Aa mixed 8 [2,3,4,5,0,1,6,7] (by kernel_rfl) ?_
      conv => whnf
      refine A7 (v := .agg #[stv,lov]) Aa rfl rfl (fun W h _ => Own.at_ (xs := [stv,lov]) (o := 0) (B3 W h) rfl) (by rfl) fun _ => ?_
      conv => whnf
      refine A7 (v := .int .i64 at_) Aa rfl rfl (fun W h _ => Own.at_ (xs := [.int .i64 at_]) (B14 W h) (by show [Value.int .i64 all[i].2] = _; rw [hat])) (by rfl) fun _ => ?_
      conv => whnf
      refine Co (v := .int .i64 (x.behind at_)) rfl rfl rfl V8 (fun W h _ => Ys (hw.chg (k019.trans (k20.trans h)) (Nat.le_refl _) (Nat.le_refl _)) at_ hatl) fun _ => ?_
      conv => whnf
      refine A7 (v := .int .i64 e.to) Aa rfl rfl (fun W h _ => Own.at_ (xs := [.int .i64 e.to]) (B16 W h) rfl) (by rfl) fun _ => ?_
      conv => whnf
      refine alk rfl rfl fun p17 D17 hD17 => ?_
      conv => whnf
      intro W21 k21 hDs21
      obtain ⟨m17,hp17⟩ := hD17 W21 (hDs21 7)
      refine st Aa m17 rfl (Nat.le_refl 2) rfl ?_
      intro W22 s22 k22 m22
      have m17' : Own W22 p17 192 (Ao (e.to,x.behind at_)) := m22
      have kall : Kp w17 W22 := (kin2.trans k20).trans (k21.newS k22 fun k hk => hk ▸ hp17)
      have hS3 := hS2.kp kall
      have m14'' : Own W22 p14 192 (Ao all[i]) := kall.own hb14 id
      obtain ⟨sj,hsj⟩ : ∃ sj,sj = Ct ((Aj g.edges f).take j) x at_ := ⟨_,rfl⟩
      rw [← hsj] at hS3 hq2
      have hFp : Kd g x (all.take i) all[i] sj all[i] = sj := by simp [Kd]
      have hrow := hS3.row all[i]
      rw [hFp] at hrow
      have hsjl : sj.length ≤ j := by
       rw [hsj]
       simp only [Ct,List.length_map]
       exact Nat.le_trans (List.length_filter_le _ _) (by simp; omega)
      obtain ⟨es,clock,hmn,-⟩ := hS3.next.h
      have hvm : (Ck nl2 Ad all[i]).ownBlock ≠ some mn := Ai hrow hmn (by simp)
      have hvl : ∀ k,(Ck nl2 Ad all[i]).ownBlock = some k → k < W22.heap.size := fun k hk => (hrow.lt k hk).2
      have hne : ∀ {b t cs},Own W22 b t cs → t ≠ 192 → ¬ (b = mn ∨ some b = (Ck nl2 Ad all[i]).ownBlock) := fun {b t cs} ho ht hk => by
       rcases hk with hk | hk
       · exact hS3.next.ne ho hk
       · exact Ai hrow ho (fun cs fr hh => by injection hh with _ h2; exact ht h2) hk.symm
      have hn17 : ¬ (p17 = mn ∨ some p17 = (Ck nl2 Ad all[i]).ownBlock) := fun hk => by
       rcases hk with hk | hk
       · exact hS3.next.ne m17' hk
       · have := ((hS2.row all[i]).lt p17 hk.symm).2
         have := (kin2.trans k20).size
         omega
      have hn14 : ¬ (p14 = mn ∨ some p14 = (Ck nl2 Ad all[i]).ownBlock) := fun hk => by
       rcases hk with hk | hk
       · exact hS3.next.ne m14'' hk
       · have hsep := hS3.put.bag.tail.sep
         rw [List.singleton_append,List.pairwise_cons] at hsep
         cases hal : Bn nl2 all[i] with
         | none => simp [Ck,hal,Value.ownBlock] at hk
         | some v =>
          simp only [Ck,hal,Option.getD_some] at hk
          exact hsep.1 _ (List.mem_map.2 ⟨_,Iv hal,rfl⟩) p14 rfl hk.symm
      have hpre := J2 prog 192 Bp (fun v : Value => v) Ad mn all[i] W22 (Ck nl2 Ad all[i]) (sj.length * 2) (Ao (e.to,x.behind at_))
      have hpb : G7 all[i].1 ∧ G7 all[i].2 := ⟨⟨by omega,by omega⟩,⟨by omega,by omega⟩⟩
      have hwsz : w11.heap.size ≤ W22.heap.size := hS3.put.base
      refine Dg Aa mixed 11 (by kernel_rfl) _ hpre ?_
      conv => whnf
      refine Gy (v := pt r 0) hpre Aa rfl rfl (fun W h _ => h.chg.range (Own.at_ (xs := [pt r 0]) hS3.put.m5 rfl) (hne hS3.put.m5 (by decide))) (by rfl) fun _ => ?_
      conv => whnf
      refine Gy (v := .map (some mn)) hpre Aa rfl rfl (fun W h _ => h.chg.range (Own.at_ (xs := [.map (some mn)]) hS3.put.mr rfl) (hne hS3.put.mr (by decide))) (by rfl) fun _ => ?_
      conv => whnf
      refine Gy (v := Bp all[i]) hpre Aa rfl rfl (fun W h _ => h.chg.range (Own.at_ (xs := Ao all[i]) (o := 0) m14'' rfl) hn14) (by rfl) fun _ => ?_
      conv => whnf
      refine Gy (v := Bp (e.to,x.behind at_)) hpre Aa rfl rfl (fun W h _ => h.chg.range (Own.at_ (xs := Ao (e.to,x.behind at_)) (o := 0) m17' rfl) hn17) (by rfl) fun _ => ?_
      conv => whnf
      refine Uh hpre rfl rfl rfl rfl rfl (by decide) (fun b o W W' hb ho hS => hS.chg.heap ho fun hc => by
       rcases hc with hc | hc
       · have := Am hmn; omega
       · have := hvl b hc.symm; omega) (fun W hS => hS.chg.size) fun q2 D hD => ?_
      conv => whnf
      refine Ai7 Aa Bk (t := 186) (MapAppR.bearsMap (Am hmn) hvm) rfl rfl rfl rfl rfl rfl (z := Ad) rfl hS3.next (B2 hpb.1 hpb.2) fun st Den hDen => ?_
      conv => whnf
      refine Un (m := 1) (news := Ao (e.to,x.behind at_)) Aa (MapAppR.bearsApp (Am hmn) hvm hvl) rfl rfl rfl rfl rfl rfl rfl (by decide) hrow rfl (fun W hS hDn => Own.at_ (xs := Ao (e.to,x.behind at_)) (o := 0) (hD W (hDn 6 (by kernel_rfl))).1 rfl) rfl (by simp only [maxLen]; omega) (by show (_ + 1) * 16 ≤ _; omega) hwsz fun v' D2 hD2 => ?_
      conv => whnf
      intro W23 hS23 hDs23
      obtain ⟨hown',hnew⟩ := hD2 W23 (hDs23 9)
      obtain ⟨x1,hen,he1⟩ := hDen W23 (hDs23 7)
      obtain ⟨a',cap',rfl⟩ := Ae hown'
      refine mu (hen.store (.slice a' (sj.length + 1) cap')) ?_
      rintro W24 ⟨hm24,hs24,hc24⟩
      rw [he1.put] at hm24
      have hc : Chg (fun b => b = mn ∨ some b = (Ck nl2 Ad all[i]).ownBlock) W22 W24 := hS23.chg.trans (hc24.mono fun _ => .inl)
      obtain ⟨es3,clock3,hmn3,-⟩ := hen.mapE.h
      have hown24 := Ab hown' hc24 (fun b hb he => Ai hown' hmn3 (by simp) (he ▸ hb))
      have hS4 := hS3.next_ (p := all[i]) (q := (e.to,x.behind at_)) hc hm24 (by rw [hFp]; exact hown24) hnew
      have m17W := hc.own m17' hn17
      refine ld Aa (v := Bp (e.to,x.behind at_)) (Own.at_ (xs := Ao (e.to,x.behind at_)) (o := 0) m17W rfl) (by rfl) ?_
      have hbl := Q6 hx (i := at_) (by omega)
      have hbq : G7 ((e.to,x.behind at_) : Ag).1 ∧ G7 ((e.to,x.behind at_) : Ag).2 := ⟨⟨by simp only; omega,by simp only; omega⟩,⟨by simp only; omega,by simp only; omega⟩⟩
      have hlen2 := hR2.len hg hx hP
      have hcall := AbN hS4.put hbq.1 hbq.2 hlen2
      refine cl Xd hcall ?_
      rintro v'' W25 ⟨av',hp',hc',hnew'⟩
      have hS5 := hS4.step hp' hc'
      refine aw (by omega) (by omega) ?_
      have hsucc : Ct ((Aj g.edges f).take (j + 1)) x at_ = sj ++ [(e.to,x.behind at_)] := by
       rw [htake,hsj]
       simp [Ct,hgo]
      have hin : (e.to,x.behind at_) ∈ succ g x all[i] := by
       unfold succ Ct
       rw [hf,hat,Int.toNat_natCast]
       exact List.mem_map.2 ⟨e,List.mem_filter.2 ⟨List.mem_of_getElem? hej,hgo⟩,rfl⟩
      refine again (j + 1,av',M0 (all ++ more) (e.to,x.behind at_),aput nl2 all[i] (.slice a' (sj.length + 1) cap')) ⟨rfl,rfl,rfl,rfl,rfl,rfl,rfl,rfl,rfl,trivial⟩ ⟨by simp only; omega,?_,?_,?_,?_⟩ (by simp only; omega)
      · exact hR2.put (by simp; omega) (.inr ⟨all[i],by simp,hin⟩)
      · show ∃ more',M0 (all ++ more) _ = all ++ more'
        unfold M0
        split
        · exact ⟨more,rfl⟩
        · exact ⟨more ++ [(e.to,x.behind at_)],by simp⟩
      · have hFF : (fun a => if a = all[i] then Kd g x (all.take i) all[i] sj all[i] ++ [(e.to,x.behind at_)] else Kd g x (all.take i) all[i] sj a) = Kd g x (all.take i) all[i] (Ct ((Aj g.edges f).take (j + 1)) x at_) := by
         funext a
         rw [hsucc,hFp]
         by_cases ha : a = all[i] <;> simp [Kd,ha]
        show RunS w8 W25 w11.heap.size p9 p5 r ms mn _ av' (M0 (all ++ more) (e.to,x.behind at_)) _ (Kd g x (all.take i) all[i] (Ct ((Aj g.edges f).take (j + 1)) x at_)) _
        rw [← hFF]
        exact hS5
      · intro a ha
        rw [show Ct (List.take (j + 1) (Aj g.edges f)) x at_ = _ from hsucc] at ha
        rcases List.mem_append.1 ha with ha | ha
        · exact mem_putP.2 (.inl (hq2 a ha))
        · exact mem_putP.2 (.inr (by simpa using ha))
   have htk : (Aj g.edges f).take j = Aj g.edges f := List.take_of_length_le (by omega)
   rw [htk] at hS2 hq2
   have hsucc : Ct (Aj g.edges f) x at_ = succ g x all[i] := by
    unfold succ
    rw [hf,hat,Int.toNat_natCast]
   rw [hsucc] at hS2 hq2
   have htk2 : (all ++ more).take (i + 1) = all.take i ++ [all[i]] := by
    rw [List.take_append_of_le_length (by omega)]; simp
   have hFF : Kd g x (all.take i) all[i] (succ g x all[i]) = In g x ((all ++ more).take (i + 1)) := by
    rw [htk2]
    exact Yh _ _ _ _
   refine aw (by omega) (by omega) ?_
   refine again (i + 1,av2,all ++ more,nl2) ⟨rfl,rfl,rfl,rfl,rfl,trivial⟩ ⟨?_,?_,?_,?_⟩ ?_
   · simp only [List.length_append]; omega
   · refine ⟨hR2.nodup,fun p hp q hq => ?_,hR2.least⟩
     simp only at hp ⊢
     rw [htk2] at hp
     rcases List.mem_append.1 hp with hp | hp
     · exact List.mem_append_left _ (hR.closed p hp q hq)
     · simp only [List.mem_singleton] at hp
       exact hq2 q (hp ▸ hq)
   · exact fun s hs => List.mem_append_left _ (hI s hs)
   · simp only
     rw [← hFF]
     have hb := hS2.put.bag.perm (List.Perm.swap _ _ _)
     exact ⟨⟨hS2.put.m9,hS2.put.m5,hS2.put.mr,hS2.put.len,hS2.put.seen,hb.tail,hS2.put.base⟩,hS2.next,hS2.none,hS2.chg,hS2.ne,hS2.low⟩
   · have := Nl hR.nodup hg (hR.box hg hx)
     simp only
     omega
 refine ld Aa (Own.at_ (xs := [pt r 0]) hS.put.m5 rfl) (by rfl) ?_
 have hall2 : all.take i = all := List.take_of_length_le (by omega)
 have k014 : Kp w w14 := (k1.trans (k16.trans k68)).newS hS.chg (fun k hk => by have := k1.size; have := k2.size; have := Am mmn; omega)
 obtain ⟨es,clock,hmn,-⟩ := hS.next.h
 refine ⟨k014,r,all,rfl,⟨hR.nodup,hI,fun p hp => hR.closed p (by rwa [hall2]),hR.least⟩,⟨_,_,_,_,_,_,mn,_,nl,hS.put.mr,?_,hS.put.mr.lt,?_,Am hmn,?_,?_,hS.next,?_⟩⟩
 · have := k1.size; have := k2.size; have := Am mmn; omega
 · have := k1.size; have := k2.size; have := Am mmn; omega
 · exact hv.chg k014 (Nat.le_refl _) k014.size
 · exact (Av (f := Ao) (fun _ => rfl) hav (by decide)).mono (fun _ _ h => h) (Nat.zero_le _) (Nat.le_refl _)
 · intro p hp
   have := hS.row p
   rw [hall2,show In g x all p = succ g x p by simp [In,hp]] at this
   exact (Av (f := Ao) (fun _ => rfl) this (by decide)).mono (fun _ _ h => h) (Nat.zero_le _) (Nat.le_refl _)
theorem V7 : Af prog 104 = true := by kernel_rfl
def B6 {α : Type} (l : List α) : List (α × Int) := l.map fun p => (p,1)
inductive Comes (g : General) (x : Word) (lin lto : List Ag) : Ag → Prop
 | one {p q : Ag} : p ∈ lin → q ∈ succ g x p → q ∈ lin → q ∈ lto → Comes g x lin lto p
 | more {p q : Ag} : p ∈ lin → q ∈ succ g x p → q ∈ lin → Comes g x lin lto q → Comes g x lin lto p
structure BefI (g : General) (x : Word) (all lin lto lout : List Ag) : Prop where
 nodup : lout.Nodup
 sub : ∀ p ∈ lout,p ∈ all
 comes : ∀ p ∈ lout,Comes g x lin lto p
def hit (lin lto lout : List Ag) (q : Ag) : Prop := q ∈ lin ∧ (q ∈ lto ∨ q ∈ lout)
def Wo (g : General) (x : Word) (lin lto lout : List Ag) (p : Ag) : Prop := p ∈ lin → p ∉ lout → ∀ q ∈ succ g x p,¬ hit lin lto lout q
theorem Vr {w : World} {m : Nat} {l : List Ag} (h : Cs w m (B6 l)) {p : Ag} (h1 : G7 p.1) (h2 : G7 p.2) :
 (Instr.lookup 190 (.map (some m)) (Bp p) false).run prog w = .ok (.int .i64 (if p ∈ l then 1 else 0)) w := by
 have hg := MapE.get Aa Bk (t := 190) rfl rfl rfl rfl (z := 0) h p (B2 h1 h2)
 rw [B6,Ed] at hg
 exact hg
set_option maxHeartbeats 4000000 in
theorem Um {w : World} {lo hi r mi mt : Nat} {g : General} {x : Word} {all lin lto : List Ag} (hr : RunV lo hi w r g x all) (ha : AllOf g x all) (hg : Good g) (hx : x.loop.length ≠ 0) (hP : x.places < 1048576) (hE : g.edges.length < 1099511627776)
 (hi_ : Cs w mi (B6 lin)) (ht : Cs w mt (B6 lto)) :
 Calls prog 126 [pt r 0,.map (some mi),.map (some mt)].toArray w (Bg fun v w' => Kp w w' ∧ ∃ mo lout,v = .map (some mo) ∧ Cs w' mo (B6 lout) ∧ w.heap.size ≤ mo ∧ lout.Nodup ∧ ∀ p,p ∈ lout ↔ p ∈ all ∧ Comes g x lin lto p) := by
 obtain ⟨pv,iv,ev,sv,stv,lov,mn,av,nl,mr,hr1,hr2,hn1,hn2,hgv,hav,hnext,hrows⟩ := hr.h
 have hbox := ha.box hg hx
 have hlen : all.length < 1099511627776 := by
  have h1 := Nl ha.nodup hg hbox
  have h2 : g.states.toNat * x.places ≤ 65536 * 1048576 := Nat.mul_le_mul (by have := hg.s1; omega) (by omega)
  omega
 have hI : ∀ p ∈ all,G7 p.1 ∧ G7 p.2 := fun p hp => by
  obtain ⟨a,b,c,d⟩ := hbox p hp
  have := hg.s1
  exact ⟨⟨by omega,by omega⟩,⟨by omega,by omega⟩⟩
 obtain ⟨ava,avc,rfl,havc,hread⟩ := hav
 refine call Aa func126 rfl ntmps126 (by kernel_rfl) ?_
 refine nd fun mo w1 e1 s1 k1 m1 => ?_
 have hmo : Cs w1 mo (B6 []) := MapE.made m1 Ej
 refine loop Aa (σ := Bool × List Ag) (fun t => [(0,pt r 0),(1,.map (some mi)),(2,.map (some mt)),(7,.map (some mo)),(8,.bool t.1)])
  (fun t W => Kp w W ∧ Cs W mo (B6 t.2) ∧ BefI g x all lin lto t.2 ∧ (t.1 = false → ∀ p ∈ all,Wo g x lin lto t.2 p)) (fun t => (all.length - t.2.length) * 2 + (if t.1 then 1 else 0)) (true,[])
  ⟨rfl,rfl,rfl,rfl,rfl,trivial⟩ ⟨k1,hmo,⟨by simp,by simp,by simp⟩,by simp⟩ ?_
 rintro ⟨more,lout⟩ env W ⟨k2,hm2,hB,hst⟩
 cases more with
 | false =>
  have hst := hst rfl
  refine ⟨k2,mo,lout,rfl,hm2,by omega,hB.nodup,fun p => ⟨fun hp => ⟨hB.sub p hp,hB.comes p hp⟩,fun ⟨hpa,hc⟩ => ?_⟩⟩
  simp only at hst
  induction hc with
  | one h1 h2 h3 h4 => exact Classical.byContradiction fun hn => hst _ hpa h1 hn _ h2 ⟨h3,.inl h4⟩
  | more h1 h2 h3 h4 ih => exact Classical.byContradiction fun hn => hst _ hpa h1 hn _ h2 ⟨h3,.inr (ih ⟨ha.closed _ hpa _ h2,h4⟩ (ha.closed _ hpa _ h2))⟩
 | true =>
  refine ld Aa (Own.at_ (xs := [.slice ava all.length avc]) (k2.own mr id) rfl) (by rfl) ?_
  refine loop Aa (σ := Nat × Bool × List Ag) (fun t => [(0,pt r 0),(1,.map (some mi)),(2,.map (some mt)),(7,.map (some mo)),(8,.bool t.2.1),(18,.slice ava all.length avc),(19,.int .i64 all.length),(20,.int .i64 t.1)])
   (fun t W => t.1 ≤ all.length ∧ Kp w W ∧ Cs W mo (B6 t.2.2) ∧ BefI g x all lin lto t.2.2 ∧ (t.2.1 = false → t.2.2 = lout ∧ ∀ p ∈ all.take t.1,Wo g x lin lto lout p) ∧ (t.2.1 = true → lout.length < t.2.2.length)) (fun t => all.length - t.1) (0,false,lout)
   ⟨rfl,rfl,rfl,rfl,rfl,rfl,rfl,rfl,trivial⟩ ⟨by omega,k2,hm2,hB,by simp,by simp⟩ ?_
  rintro ⟨i,more,lout2⟩ env2 W3 ⟨hi3,k3,hm3,hB3,hs3,ht3⟩
  simp only at hi3 hm3 hB3 hs3 ht3
  refine sp (fun hlt => ?_) (fun hge => ?_)
  · have hi' : i < all.length := by omega
    obtain ⟨b,o,rfl,hlo,hhi,cs,hcs,hrd,rfl⟩ := hread i all[i] (by simp)
    have hp := hI all[i] (by simp)
    refine ne ⟨by omega,hlt⟩ ?_
    refine ld Aa (v := Bp all[i]) (k3.range hrd id) rfl ?_
    refine nd fun p10 w4 e4 s4 k4 m4 => ?_
    refine st Aa (cs := [.int .i64 0,.int .i64 0]) m4 rfl (Nat.le_refl 2) rfl ?_
    intro w5 s5 k5 m5
    have m10 : Own w5 p10 192 (Ao all[i]) := m5
    have k35 : Kp W3 w5 := k4.new e4 k5
    have hm5 : Cs w5 mo (B6 lout2) := hm3.chg k35 id
    refine ld Aa (v := Bp all[i]) (Own.at_ (xs := Ao all[i]) (o := 0) m10 rfl) (by rfl) ?_
    refine lk (Vr ((hi_.chg k3 id).chg k35 id) hp.1 hp.2) ?_
    have hsnoc : all.take (i + 1) = all.take i ++ [all[i]] := by simp
    have skip : Wo g x lin lto lout all[i] ∨ more = true → ∀ W,Kp W3 W → Cs W mo (B6 lout2) → ∀ e',
     Has e' [(0,pt r 0),(1,.map (some mi)),(2,.map (some mt)),(7,.map (some mo)),(8,.bool more),(18,.slice (some ⟨b,o,none⟩) all.length avc),(19,.int .i64 all.length),(20,.int .i64 (i + 1 : Nat))] → e' mark = undef →
     Again (σ := Nat × Bool × List Ag) (fun t => [(0,pt r 0),(1,.map (some mi)),(2,.map (some mt)),(7,.map (some mo)),(8,.bool t.2.1),(18,.slice (some ⟨b,o,none⟩) all.length avc),(19,.int .i64 all.length),(20,.int .i64 t.1)])
      (fun t W => t.1 ≤ all.length ∧ Kp w W ∧ Cs W mo (B6 t.2.2) ∧ BefI g x all lin lto t.2.2 ∧ (t.2.1 = false → t.2.2 = lout ∧ ∀ p ∈ all.take t.1,Wo g x lin lto lout p) ∧ (t.2.1 = true → lout.length < t.2.2.length)) (fun t => all.length - t.1) (i,more,lout2) e' W := fun h W hW hmW e' he hmk =>
     again (hm := hmk) (i + 1,more,lout2) he ⟨by simp only; omega,k3.trans hW,hmW,hB3,fun hf => ⟨(hs3 hf).1,fun p hp' => by
      simp only [hsnoc] at hp'
      rcases List.mem_append.1 hp' with hp' | hp'
      · exact (hs3 hf).2 p hp'
      · simp only [List.mem_singleton] at hp'
        rw [hp']
        exact h.resolve_right fun h => by rw [h] at hf; cases hf⟩,ht3⟩ (by simp only; omega)
    by_cases hin : all[i] ∈ lin
    · rw [if_pos hin]
      refine Bs (by decide) ?_
      refine ld Aa (v := Bp all[i]) (Own.at_ (xs := Ao all[i]) (o := 0) m10 rfl) (by rfl) ?_
      refine lk (Vr hm5 hp.1 hp.2) ?_
      by_cases hout : all[i] ∈ lout2
      · rw [if_pos hout]
        refine Dj (by decide) ?_
        refine aw (by omega) (by omega) ?_
        refine skip ?_ w5 k35 hm5 _ ⟨rfl,rfl,rfl,rfl,rfl,rfl,rfl,rfl,trivial⟩ rfl
        cases more with
        | true => exact .inr rfl
        | false => exact .inl fun _ hn => absurd ((hs3 rfl).1 ▸ hout) hn
      · rw [if_neg hout]
        refine Bs (by decide) ?_
        have hrow := hrows all[i] (by simp)
        obtain ⟨na,nc,hnv,hnc,hnr⟩ := id hrow
        have A10 : ∀ W,Kp w5 W → Own W p10 192 (Ao all[i]) := fun W h => h.own m10 id
        refine Gn Aa mixed 8 [0,1,2,3,4,5,6,7] (by kernel_rfl) ?_
        conv => whnf
        refine A7 (v := .map (some mn)) Aa rfl rfl (fun W h _ => Own.at_ (xs := [.map (some mn)]) ((k3.trans (k35.trans h)).own mr id) rfl) (by rfl) fun _ => ?_
        conv => whnf
        refine A7 (v := Bp all[i]) Aa rfl rfl (fun W h _ => Own.at_ (xs := Ao all[i]) (o := 0) (A10 W h) rfl) (by rfl) fun _ => ?_
        conv => whnf
        refine Zt (v := .slice na (succ g x all[i]).length nc) (Fh _) rfl (fun W h _ => by
         have := MapE.get Aa Bk (t := 186) rfl rfl rfl rfl (z := Ad) (hnext.chg (k3.trans (k35.trans h)) id) all[i] (B2 hp.1 hp.2)
         rw [hnv] at this
         exact this) fun _ => ?_
        conv => whnf
        intro w6 k6 _
        have k36 : Kp W3 w6 := k35.trans k6
        have hsl : (succ g x all[i]).length < 1099511627776 := by
         unfold succ Ct Aj
         rw [List.length_map]
         exact Nat.lt_of_le_of_lt (Nat.le_trans (List.length_filter_le _ _) (List.length_filter_le _ _)) hE
        refine loop Aa (σ := Nat) (fun j => [(0,pt r 0),(1,.map (some mi)),(2,.map (some mt)),(7,.map (some mo)),(8,.bool more),(10,pt p10 0),(18,.slice (some ⟨b,o,none⟩) all.length avc),(19,.int .i64 all.length),(20,.int .i64 i),(39,.slice na (succ g x all[i]).length nc),(40,.int .i64 (succ g x all[i]).length),(41,.int .i64 j)])
         (fun j W => Kp w6 W ∧ j ≤ (succ g x all[i]).length ∧ ∀ q ∈ (succ g x all[i]).take j,¬ hit lin lto lout2 q) (fun j => (succ g x all[i]).length - j) 0
         ⟨rfl,rfl,rfl,rfl,rfl,rfl,rfl,rfl,rfl,rfl,rfl,rfl,trivial⟩ ⟨Chg.refl _ _,by omega,by simp⟩ ?_
        rintro j env3 w7 ⟨k7,hj,hno⟩
        refine sp (fun hlt2 => ?_) (fun hge2 => ?_)
        · have hj' : j < (succ g x all[i]).length := by omega
          obtain ⟨q,hq⟩ : ∃ q,q = (succ g x all[i])[j] := ⟨_,rfl⟩
          have hqj : (succ g x all[i])[j]? = some q := by rw [hq]; simp
          have hqs : q ∈ succ g x all[i] := List.mem_of_getElem? hqj
          have hqa := ha.closed all[i] (by simp) q hqs
          have hqI := hI q hqa
          obtain ⟨b3,o3,rfl,hlo3,hhi3,cs3,hcs3,hrd3,rfl⟩ := hnr j q hqj
          refine ne ⟨by omega,hlt2⟩ ?_
          refine ld Aa (v := Bp q) ((k3.trans (k36.trans k7)).range hrd3 id) (by rfl) ?_
          refine nd fun p12 w8 e8 s8 k8 m8 => ?_
          refine st Aa (cs := [.int .i64 0,.int .i64 0]) m8 rfl (Nat.le_refl 2) rfl ?_
          intro w9 s9 k9 m9
          have m12 : Own w9 p12 192 (Ao q) := m9
          have k39 : Kp W3 w9 := k36.trans (k7.trans (k8.new e8 k9))
          have k69 : Kp w6 w9 := k7.trans (k8.new e8 k9)
          have hm9 : Cs w9 mo (B6 lout2) := hm3.chg k39 id
          refine ld Aa (v := Bp q) (Own.at_ (xs := Ao q) (o := 0) m12 rfl) (by rfl) ?_
          refine lk (Vr (hi_.chg (k3.trans k39) id) hqI.1 hqI.2) ?_
          by_cases c1 : q ∈ lin
          · rw [if_pos c1]
            refine Dj (by decide) ?_
            refine ld Aa (v := Bp q) (Own.at_ (xs := Ao q) (o := 0) m12 rfl) (by rfl) ?_
            refine lk (Vr (ht.chg (k3.trans k39) id) hqI.1 hqI.2) ?_
            by_cases c2 : q ∈ lto
            · rw [if_pos c2]
              refine Dj (by decide) ?_
              have hh : hit lin lto lout2 q := ⟨c1,.inl c2⟩
              have hpre := I1 prog 192 Bp (fun n : Int => .int .i64 n) 0 mo all[i]
              have m10' : Own w9 p10 192 (Ao all[i]) := (k6.trans k69).own m10 id
              have n10 : p10 ≠ mo := hm9.ne m10'
              refine Dg Aa mixed 6 (by kernel_rfl) _ hpre ?_
              conv => whnf
              refine Gy (v := Bp all[i]) hpre Aa rfl rfl (fun W h _ => h.chg.range (Own.at_ (xs := Ao all[i]) (o := 0) m10' rfl) n10) (by rfl) fun _ => ?_
              conv => whnf
              refine Zt (v := .int .i64 0) hpre rfl (fun W h _ => by
               obtain ⟨x1,hm1,he1⟩ := h.map _ hm9
               have := MapE.get Aa Bk (t := 190) rfl rfl rfl rfl (z := 0) hm1 all[i] (B2 hp.1 hp.2)
               rw [he1.get,B6,Ed,if_neg hout] at this
               exact this) fun _ => ?_
              conv => whnf
              refine aw (by omega) (by omega) ?_
              conv => whnf
              refine enr Aa Bk (t := 190) rfl rfl rfl rfl rfl rfl (z := 0) rfl hm9 (B2 hp.1 hp.2) fun st D hD => ?_
              conv => whnf
              intro W10 hW10 hDs
              obtain ⟨x1,hen,he1⟩ := hD W10 (hDs 4)
              refine mu (hen.store 1) ?_
              rintro w11 ⟨hm11,hs11,hc11⟩
              have hones : aput x1 all[i] 1 = B6 (lout2 ++ [all[i]]) := by
               rw [he1.put,B6,B6,Cz fun y hy he => by
                obtain ⟨z,hz,rfl⟩ := List.mem_map.1 hy
                exact hout (he ▸ hz)]
               simp
              rw [hones] at hm11
              refine aw (by omega) (by omega) ?_
              have k11 : Kp w w11 := (k3.trans k39).newS (hW10.chg.trans hc11) fun k hk => by omega
              refine again (i + 1,true,lout2 ++ [all[i]]) ⟨rfl,rfl,rfl,rfl,rfl,rfl,rfl,rfl,trivial⟩ ⟨by simp only; omega,k11,hm11,⟨?_,?_,?_⟩,(fun hf => by cases hf),fun _ => ?_⟩ (by simp only; omega)
              · simp only
                rw [List.nodup_append]
                refine ⟨hB3.nodup,by simp,fun a ha b hb he => ?_⟩
                simp only [List.mem_singleton] at hb
                exact hout (hb ▸ he ▸ ha)
              · intro p hpm
                rcases List.mem_append.1 hpm with hpm | hpm
                · exact hB3.sub p hpm
                · simp only [List.mem_singleton] at hpm
                  rw [hpm]; simp
              · intro p hpm
                rcases List.mem_append.1 hpm with hpm | hpm
                · exact hB3.comes p hpm
                · simp only [List.mem_singleton] at hpm
                  rw [hpm]
                  rcases hh.2 with h | h
                  · exact .one hin hqs hh.1 h
                  · exact .more hin hqs hh.1 (hB3.comes q h)
              · simp only [List.length_append,List.length_singleton]
                cases more with
                | true => have := ht3 rfl; omega
                | false => rw [(hs3 rfl).1]; omega
            · rw [if_neg c2]
              refine Bs (by decide) ?_
              refine ld Aa (v := Bp q) (Own.at_ (xs := Ao q) (o := 0) m12 rfl) (by rfl) ?_
              refine lk (Vr hm9 hqI.1 hqI.2) ?_
              by_cases c3 : q ∈ lout2
              · rw [if_pos c3]
                refine Dj (by decide) ?_
                have hh : hit lin lto lout2 q := ⟨c1,.inr c3⟩
                have hpre := I1 prog 192 Bp (fun n : Int => .int .i64 n) 0 mo all[i]
                have m10' : Own w9 p10 192 (Ao all[i]) := (k6.trans k69).own m10 id
                have n10 : p10 ≠ mo := hm9.ne m10'
                refine Dg Aa mixed 6 (by kernel_rfl) _ hpre ?_
                conv => whnf
                refine Gy (v := Bp all[i]) hpre Aa rfl rfl (fun W h _ => h.chg.range (Own.at_ (xs := Ao all[i]) (o := 0) m10' rfl) n10) (by rfl) fun _ => ?_
                conv => whnf
                refine Zt (v := .int .i64 0) hpre rfl (fun W h _ => by
                 obtain ⟨x1,hm1,he1⟩ := h.map _ hm9
                 have := MapE.get Aa Bk (t := 190) rfl rfl rfl rfl (z := 0) hm1 all[i] (B2 hp.1 hp.2)
                 rw [he1.get,B6,Ed,if_neg hout] at this
                 exact this) fun _ => ?_
                conv => whnf
                refine aw (by omega) (by omega) ?_
                conv => whnf
                refine enr Aa Bk (t := 190) rfl rfl rfl rfl rfl rfl (z := 0) rfl hm9 (B2 hp.1 hp.2) fun st D hD => ?_
                conv => whnf
                intro W10 hW10 hDs
                obtain ⟨x1,hen,he1⟩ := hD W10 (hDs 4)
                refine mu (hen.store 1) ?_
                rintro w11 ⟨hm11,hs11,hc11⟩
                have hones : aput x1 all[i] 1 = B6 (lout2 ++ [all[i]]) := by
                 rw [he1.put,B6,B6,Cz fun y hy he => by
                  obtain ⟨z,hz,rfl⟩ := List.mem_map.1 hy
                  exact hout (he ▸ hz)]
                 simp
                rw [hones] at hm11
                refine aw (by omega) (by omega) ?_
                have k11 : Kp w w11 := (k3.trans k39).newS (hW10.chg.trans hc11) fun k hk => by omega
                refine again (i + 1,true,lout2 ++ [all[i]]) ⟨rfl,rfl,rfl,rfl,rfl,rfl,rfl,rfl,trivial⟩ ⟨by simp only; omega,k11,hm11,⟨?_,?_,?_⟩,(fun hf => by cases hf),fun _ => ?_⟩ (by simp only; omega)
                · simp only
                  rw [List.nodup_append]
                  refine ⟨hB3.nodup,by simp,fun a ha b hb he => ?_⟩
                  simp only [List.mem_singleton] at hb
                  exact hout (hb ▸ he ▸ ha)
                · intro p hpm
                  rcases List.mem_append.1 hpm with hpm | hpm
                  · exact hB3.sub p hpm
                  · simp only [List.mem_singleton] at hpm
                    rw [hpm]; simp
                · intro p hpm
                  rcases List.mem_append.1 hpm with hpm | hpm
                  · exact hB3.comes p hpm
                  · simp only [List.mem_singleton] at hpm
                    rw [hpm]
                    rcases hh.2 with h | h
                    · exact .one hin hqs hh.1 h
                    · exact .more hin hqs hh.1 (hB3.comes q h)
                · simp only [List.length_append,List.length_singleton]
                  cases more with
                  | true => have := ht3 rfl; omega
                  | false => rw [(hs3 rfl).1]; omega
              · rw [if_neg c3]
                refine Bs (by decide) ?_
                refine aw (by omega) (by omega) ?_
                refine again (j + 1) ⟨rfl,rfl,rfl,rfl,rfl,rfl,rfl,rfl,rfl,rfl,rfl,rfl,trivial⟩ ⟨k69,by omega,fun y hy => ?_⟩ (by omega)
                rw [show (succ g x all[i]).take (j + 1) = (succ g x all[i]).take j ++ [q] by rw [hq]; simp] at hy
                rcases List.mem_append.1 hy with hy | hy
                · exact hno y hy
                · simp only [List.mem_singleton] at hy
                  rw [hy]
                  exact fun h => h.2.elim c2 c3
          · rw [if_neg c1]
            refine Bs (by decide) ?_
            refine aw (by omega) (by omega) ?_
            refine again (j + 1) ⟨rfl,rfl,rfl,rfl,rfl,rfl,rfl,rfl,rfl,rfl,rfl,rfl,trivial⟩ ⟨k69,by omega,fun y hy => ?_⟩ (by omega)
            rw [show (succ g x all[i]).take (j + 1) = (succ g x all[i]).take j ++ [q] by rw [hq]; simp] at hy
            rcases List.mem_append.1 hy with hy | hy
            · exact hno y hy
            · simp only [List.mem_singleton] at hy
              rw [hy]
              exact fun h => c1 h.1
        · refine aw (by omega) (by omega) ?_
          rw [List.take_of_length_le (by omega)] at hno
          refine skip ?_ w7 (k36.trans k7) (hm3.chg (k36.trans k7) id) _ ⟨rfl,rfl,rfl,rfl,rfl,rfl,rfl,rfl,trivial⟩ rfl
          cases more with
          | true => exact .inr rfl
          | false => exact .inl fun _ _ q hq => (hs3 rfl).1 ▸ hno q hq
    · rw [if_neg hin]
      refine Dj rfl ?_
      refine aw (by omega) (by omega) ?_
      exact skip (.inl fun h => absurd h hin) w5 k35 hm5 _ ⟨rfl,rfl,rfl,rfl,rfl,rfl,rfl,rfl,trivial⟩ rfl
  have hall : all.take i = all := List.take_of_length_le (by omega)
  rw [hall] at hs3
  have hl2 := A8 hB3.nodup hB3.sub
  refine again (more,lout2) ⟨rfl,rfl,rfl,rfl,rfl,trivial⟩ ⟨k3,hm3,hB3,fun hf => ?_⟩ ?_
  · simp only at hf
    simp only
    rw [(hs3 hf).1]
    exact (hs3 hf).2
  · cases more with
    | false => simp only [(hs3 rfl).1]; simp
    | true =>
     have := ht3 rfl
     simp only [if_true]
     omega
theorem Pd : Af prog 126 = true := by kernel_rfl
theorem Ab7 (w : World) (a b : Int) : Calls prog 83 [.int .i64 a,.int .i64 b].toArray w (Bg fun r w' => r = .bool (decide (a < b)) ∧ Kp w w') := by
 refine call Aa func83 rfl ntmps83 (by kernel_rfl) ?_
 refine cl O9 (On w a) ?_
 rintro _ w1 ⟨rfl,k1⟩
 refine Zc ?_
 exact ⟨rfl,k1⟩
theorem Z9 : Af prog 83 = true := by kernel_rfl
theorem Af5 (w : World) (x : Int) : Calls prog 84 [.int .i64 x].toArray w (Bg fun r w' => r = .bool false ∧ Kp w w') := by
 refine call Aa func84 rfl ntmps84 (by kernel_rfl) ?_
 exact Bs (fun h => h rfl) ⟨rfl,Chg.refl _ _⟩
theorem AbE : Af prog 84 = true := by kernel_rfl
theorem AcO {z : Int} (h1 : 0 ≤ z) (h2 : z ≤ 18446744073709551615) : IntKind.u64.wrap z = z := by
 show (if (false && decide (z % 18446744073709551616 ≥ 9223372036854775808)) = true then z % 18446744073709551616 - 18446744073709551616 else z % 18446744073709551616) = z
 simp
 omega
set_option maxHeartbeats 4000000 in
theorem Hm {w : World} {lo hi : Nat} {v : Value} {l : List Int} (h : Ef lo hi w v l) (hl : l.length < 4611686018427387904) (hs : l.Pairwise (· ≤ ·)) (x : Int) :
 Calls prog 32 [v,.int .i64 x].toArray w (Bg fun r w' => (∃ k : Nat,r = .tuple #[.int .i64 k,.bool (decide (x ∈ l))]) ∧ Kp w w') := by
 obtain ⟨a,cap,rfl,hcap,hx⟩ := h
 have hmono : ∀ i j (hi : i < l.length) (hj : j < l.length),i ≤ j → l[i] ≤ l[j] := fun i j hi hj hij => by
  rcases Nat.lt_or_eq_of_le hij with h | h
  · exact List.pairwise_iff_getElem.1 hs i j hi hj h
  · subst h; exact Int.le_refl _
 refine call Aa func32 rfl ntmps32 (by kernel_rfl) ?_
 refine loop Aa (σ := Nat × Nat) (fun t => [(0,.slice a l.length cap),(1,.int .i64 x),(6,.int .i64 l.length),(7,.int .i64 t.1),(8,.int .i64 t.2)])
  (fun t w' => Kp w w' ∧ t.1 ≤ t.2 ∧ t.2 ≤ l.length ∧ (∀ i (hi : i < l.length),i < t.1 → l[i] < x) ∧ (∀ i (hi : i < l.length),t.2 ≤ i → x ≤ l[i])) (fun t => t.2 - t.1) (0,l.length)
  ⟨rfl,rfl,rfl,rfl,rfl,trivial⟩ ⟨Chg.refl _ _,by omega,by simp only; omega,by simp,fun i hi hi' => by simp only at hi'; omega⟩ ?_
 rintro ⟨i,j⟩ env w1 ⟨k1,hij,hj,hlow,hhigh⟩
 simp only at hij hj hlow hhigh
 refine sp (fun hlt => ?_) (fun hge => ?_)
 · refine aw (by omega) (by omega) ?_
   refine ⟨fun z hz => ?_⟩
   rw [AcO (by omega) (by omega)] at hz
   subst hz
   refine ne (by decide) ?_
   have hdiv : ((i : Int) + j).fdiv (2 ^ (min (1 : Int).toNat (IntKind.bits .u64))) = (((i + j) / 2 : Nat) : Int) := by
    rw [show (2 : Int) ^ (min (1 : Int).toNat (IntKind.bits .u64)) = 2 from rfl,Int.fdiv_eq_ediv_of_nonneg _ (by decide)]
    omega
   refine ⟨fun z hz => ?_⟩
   rw [hdiv] at hz
   subst hz
   refine aw (by omega) (by omega) ?_
   obtain ⟨m,hm⟩ : ∃ m,m = (i + j) / 2 := ⟨_,rfl⟩
   rw [← hm]
   have hml : m < l.length := by omega
   obtain ⟨b,o,rfl,hlo,hhi,cs,hcs,hrd,rfl⟩ := hx m l[m] (by simp)
   refine ne ⟨by omega,by omega⟩ ?_
   refine ld Aa (k1.range hrd id) (by rfl) ?_
   refine cl Z9 (Ab7 w1 l[m] x) ?_
   rintro _ w2 ⟨rfl,k2⟩
   by_cases hc : l[m] < x
   · rw [decide_eq_true hc]
     refine aw (by omega) (by omega) ?_
     refine again (m + 1,j) ⟨rfl,rfl,rfl,rfl,rfl,trivial⟩ ⟨k1.trans k2,by simp only; omega,hj,fun q hq hq' => ?_,hhigh⟩ (by simp only; omega)
     simp only at hq'
     have := hmono q m hq hml (by omega)
     omega
   · rw [decide_eq_false hc]
     refine again (i,m) ⟨rfl,rfl,rfl,rfl,rfl,trivial⟩ ⟨k1.trans k2,by simp only; omega,by simp only; omega,hlow,fun q hq hq' => ?_⟩ (by simp only; omega)
     simp only at hq'
     have := hmono m q hml hq hq'
     omega
 · have hij' : i = j := by omega
   subst hij'
   by_cases hil : i < l.length
   · refine Dj (by omega) ?_
     obtain ⟨b,o,rfl,hlo,hhi,cs,hcs,hrd,rfl⟩ := hx i l[i] (by simp)
     refine ne ⟨by omega,by omega⟩ ?_
     refine ld Aa (k1.range hrd id) (by rfl) ?_
     by_cases he : l[i] = x
     · refine Dj he ?_
       refine ⟨⟨i,?_⟩,k1⟩
       have hd : decide (x ∈ l) = true := decide_eq_true (by rw [← he]; simp)
       rw [hd]
       rfl
     · refine Bs he ?_
       refine ne ⟨by omega,by omega⟩ ?_
       refine ld Aa (k1.range hrd id) (by rfl) ?_
       refine cl AbE (Af5 w1 l[i]) ?_
       rintro _ w2 ⟨rfl,k2⟩
       refine ⟨⟨i,?_⟩,k1.trans k2⟩
       have hd : decide (x ∈ l) = false := decide_eq_false fun hm => by
        obtain ⟨q,hq,hqe⟩ := List.getElem_of_mem hm
        rcases Nat.lt_or_ge q i with h | h
        · have := hlow q hq h; omega
        · have h1 := hmono i q hil hq h
          have h2 := hhigh i hil (Nat.le_refl _)
          omega
       rw [hd]
       rfl
   · refine Bs (by omega) ?_
     refine ⟨⟨i,?_⟩,k1⟩
     have hd : decide (x ∈ l) = false := decide_eq_false fun hm => by
      obtain ⟨q,hq,hqe⟩ := List.getElem_of_mem hm
      have := hlow q hq (by omega)
      omega
     rw [hd]
     rfl
theorem E6 : Af prog 32 = true := by kernel_rfl
theorem Jh {n : Int} : ∀ {l : List Int} {p : Option Int},Ak n p l = true → l.Pairwise (· ≤ ·) ∧ ∀ y,p = some y → ∀ x ∈ l,y ≤ x
 | [],_,_ => ⟨.nil,by simp⟩
 | x :: r,p,h => by
  simp only [Ak,Bool.and_eq_true,Bool.not_eq_true',Bool.or_eq_false_iff,decide_eq_false_iff_not] at h
  obtain ⟨⟨⟨h1,h2⟩,h3⟩,h4⟩ := h
  obtain ⟨ih1,ih2⟩ := Jh h4
  refine ⟨List.pairwise_cons.2 ⟨fun y hy => ih2 x rfl y hy,ih1⟩,fun y hy z hz => ?_⟩
  subst hy
  simp only [decide_eq_false_iff_not] at h3
  rcases List.mem_cons.1 hz with rfl | hz
  · omega
  · have := ih2 x rfl z hz; omega
inductive Plus (g : General) (x : Word) (X T : Ag → Prop) : Ag → Prop
 | one {p q : Ag} : X p → q ∈ succ g x p → X q → T q → Plus g x X T p
 | more {p q : Ag} : X p → q ∈ succ g x p → X q → Plus g x X T q → Plus g x X T p
theorem Plus.mono {g : General} {x : Word} {X T X' T' : Ag → Prop} (hX : ∀ p,X p → X' p) (hT : ∀ p,X p → T p → T' p) {p : Ag} (h : Plus g x X T p) : Plus g x X' T' p := by
 induction h with
 | one h1 h2 h3 h4 => exact .one (hX _ h1) h2 (hX _ h3) (hT _ h3 h4)
 | more h1 h2 h3 _ ih => exact .more (hX _ h1) h2 (hX _ h3) ih
theorem Plus.self {g : General} {x : Word} {X T : Ag → Prop} {p : Ag} (h : Plus g x X T p) : X p := by cases h <;> assumption
theorem Comes.plus {g : General} {x : Word} {lin lto : List Ag} {p : Ag} (h : Comes g x lin lto p) : Plus g x (· ∈ lin) (· ∈ lto) p := by
 induction h with
 | one h1 h2 h3 h4 => exact .one h1 h2 h3 h4
 | more h1 h2 h3 _ ih => exact .more h1 h2 h3 ih
theorem Plus.comes {g : General} {x : Word} {lin lto : List Ag} {p : Ag} (h : Plus g x (· ∈ lin) (· ∈ lto) p) : Comes g x lin lto p := by
 induction h with
 | one h1 h2 h3 h4 => exact .one h1 h2 h3 h4
 | more h1 h2 h3 _ ih => exact .more h1 h2 h3 ih
def Y7 (n : Int) : List Int := (List.range n.toNat).map fun (i : Nat) => (i : Int)
def A4 (g : General) : List (List Int) := if g.sets.length = 0 then [Y7 g.states] else g.sets
def Y0 (g : General) (x : Word) (p : Ag) : Prop := ∀ X : Ag → Prop,(∀ s ∈ g.init,X (s,0)) → (∀ p q,X p → q ∈ succ g x p → X q) → X p
def Y2 (g : General) (x : Word) : Prop := ∃ X : Ag → Prop,(∃ p,X p) ∧ (∀ p,X p → Y0 g x p) ∧ ∀ p,X p → ∀ F ∈ A4 g,Plus g x X (fun q => q.1 ∈ F) p
theorem Vh {α : Type} [DecidableEq α] {l r : List α} (hl : l.Nodup) (hs : ∀ x ∈ l,x ∈ r) (he : r.length ≤ l.length) : ∀ x ∈ r,x ∈ l := fun x hx => Classical.byContradiction fun hn => by
 have := A8 (l := x :: l) (r := r) (List.nodup_cons.2 ⟨hn,hl⟩) fun y hy => by
  rcases List.mem_cons.1 hy with rfl | hy
  · exact hx
  · exact hs y hy
 simp at this
 omega
structure AccI (g : General) (x : Word) (all lin : List Ag) : Prop where
 nodup : lin.Nodup
 sub : ∀ p ∈ lin,p ∈ all
 great : ∀ X : Ag → Prop,(∀ p,X p → p ∈ all) → (∀ p,X p → ∀ F ∈ A4 g,Plus g x X (fun q => q.1 ∈ F) p) → ∀ p,X p → p ∈ lin
def Xk (g : General) (x : Word) (lin : List Ag) (Fs : List (List Int)) : Prop := ∀ p ∈ lin,∀ F ∈ Fs,Plus g x (· ∈ lin) (fun q => q.1 ∈ F) p
theorem AccI.accP {g : General} {x : Word} {all lin : List Ag} (ha : AllOf g x all) (h : AccI g x all lin) (hf : Xk g x lin (A4 g)) : 0 < lin.length ↔ Y2 g x := by
 constructor
 · intro h0
   refine ⟨(· ∈ lin),⟨lin[0],by simp⟩,fun p hp X h1 h2 => ha.least X h1 h2 p (h.sub p hp),hf⟩
 · rintro ⟨X,⟨p,hp⟩,hr,hX⟩
   have := h.great X (fun q hq => hr q hq _ ha.init fun p q hp hq => ha.closed p hp q hq) hX p hp
   exact List.length_pos_of_mem this
structure CutI (g : General) (x : Word) (lin0 lin : List Ag) (Fs : List (List Int)) : Prop where
 sub : ∀ p ∈ lin,p ∈ lin0
 fixed : lin.length = lin0.length → (∀ p ∈ lin0,p ∈ lin) ∧ Xk g x lin0 Fs
theorem CutI.step {g : General} {x : Word} {all lin0 lin lto lin' : List Ag} {Fs : List (List Int)} {F : List Int} (h0 : AccI g x all lin0) (h : AccI g x all lin) (hc : CutI g x lin0 lin Fs) (hF : F ∈ A4 g)
 (hto : ∀ p,p ∈ lto ↔ p ∈ all ∧ p.1 ∈ F ∧ p ∈ lin) (hn : lin'.Nodup) (hl : ∀ p,p ∈ lin' ↔ p ∈ all ∧ Comes g x lin lto p) : AccI g x all lin' ∧ CutI g x lin0 lin' (Fs ++ [F]) := by
 have hsub : ∀ p ∈ lin',p ∈ lin := fun p hp => ((hl p).1 hp).2.plus.self
 refine ⟨⟨hn,fun p hp => h.sub p (hsub p hp),fun X h1 h2 p hp => ?_⟩,⟨fun p hp => hc.sub p (hsub p hp),fun he => ?_⟩⟩
 · have hXl := h.great X h1 h2
   refine (hl p).2 ⟨h1 p hp,?_⟩
   exact (Plus.mono (fun q hq => hXl q hq) (fun q hq hqF => (hto q).2 ⟨h1 q hq,hqF,hXl q hq⟩) (h2 p hp F hF)).comes
 · have e1 := A8 hn hsub
   have e2 := A8 h.nodup hc.sub
   obtain ⟨f1,f2⟩ := hc.fixed (by omega)
   have e3 := Vh hn hsub (by omega)
   refine ⟨fun p hp => e3 p (f1 p hp),fun p hp G hG => ?_⟩
   rcases List.mem_append.1 hG with hG | hG
   · exact f2 p hp G hG
   · simp only [List.mem_singleton] at hG
     subst hG
     have := ((hl p).1 (e3 p (f1 p hp))).2.plus
     exact this.mono (fun q hq => hc.sub q hq) (fun q _ hq => ((hto q).1 hq).2.1)
theorem Sp (n : Int) : (Y7 n).Pairwise (· ≤ ·) := by
 unfold Y7
 rw [List.pairwise_map]
 exact (List.pairwise_lt_range).imp fun h => by omega
theorem RunV.chg {lo hi hi' r : Nat} {w w' : World} {g : General} {x : Word} {all : List Ag} (h : RunV lo hi w r g x all) (k : Kp w w') (hh : hi ≤ hi') : RunV lo hi' w' r g x all := by
 obtain ⟨pv,iv,ev,sv,stv,lov,mn,av,nl,mr,hr1,hr2,hn1,hn2,hgv,hav,hnext,hrows⟩ := h.h
 exact ⟨_,_,_,_,_,_,mn,_,nl,k.own mr id,hr1,by omega,hn1,by omega,hgv.chg k (Nat.le_refl _) hh,(hav.chg k (fun _ _ _ h => h) (fun _ _ h => h)).mono (fun _ _ h => h) (Nat.le_refl _) hh,hnext.chg k id,
  fun p hp => ((hrows p hp).chg k (fun _ _ _ h => h) (fun _ _ h => h)).mono (fun _ _ h => h) (Nat.le_refl _) hh⟩
noncomputable def Hn (g : General) (x : Word) : Bool := @decide (Y2 g x) (Classical.propDecidable _)
set_option maxHeartbeats 4000000 in
theorem Yz {w : World} {lo hi r : Nat} {g : General} {x : Word} {all : List Ag} (hr : RunV lo hi w r g x all) (hhi : hi ≤ w.heap.size) (ha : AllOf g x all) (hg : Good g) (hs : ∀ l ∈ g.sets,l.Pairwise (· ≤ ·)) (hx : x.loop.length ≠ 0) (hP : x.places < 1048576) (hE : g.edges.length < 1099511627776) :
 Calls prog 105 [pt r 0].toArray w (Bg fun v w' => v = .bool (Hn g x) ∧ Kp w w') := by
 obtain ⟨pv,iv,ev,sv,stv,lov,mn,av,nl,mr,hr1,hr2,hn1,hn2,hgv,hav,hnext,hrows⟩ := id hr.h
 have hbox := ha.box hg hx
 have hls := hgv.ls
 have hlen : all.length < 1099511627776 := by
  have h1 := Nl ha.nodup hg hbox
  have h2 : g.states.toNat * x.places ≤ 65536 * 1048576 := Nat.mul_le_mul (by have := hg.s1; omega) (by omega)
  omega
 have hI : ∀ p ∈ all,G7 p.1 ∧ G7 p.2 := fun p hp => by
  obtain ⟨a,b,c,d⟩ := hbox p hp
  have := hg.s1
  exact ⟨⟨by omega,by omega⟩,⟨by omega,by omega⟩⟩
 have hsorted : ∀ F ∈ A4 g,F.Pairwise (· ≤ ·) := fun F hF => by
  unfold A4 at hF
  split at hF
  · simp only [List.mem_singleton] at hF
    rw [hF]
    exact Sp _
  · exact hs F hF
 obtain ⟨ava,avc,rfl,havc,hread⟩ := id hav
 refine call Aa func105 rfl ntmps105 (by kernel_rfl) ?_
 refine nd fun m3 w1 e1 s1 k1 m1 => ?_
 have hm3 : Cs w1 m3 (B6 []) := MapE.made m1 Ej
 refine ld Aa (Own.at_ (xs := [.slice ava all.length avc]) (k1.own mr id) rfl) (by rfl) ?_
 refine loop Aa (σ := Nat) (fun i => [(0,pt r 0),(3,.map (some m3)),(20,.slice ava all.length avc),(21,.int .i64 all.length),(22,.int .i64 i)])
  (fun i W => i ≤ all.length ∧ Kp w W ∧ Cs W m3 (B6 (all.take i))) (fun i => all.length - i) 0
  ⟨rfl,rfl,rfl,rfl,rfl,trivial⟩ ⟨by omega,k1,hm3⟩ ?_
 rintro i env w2 ⟨hi2,k2,hm⟩
 refine sp (fun hlt => ?_) (fun hge => ?_)
 · have hi' : i < all.length := by omega
   obtain ⟨b,o,rfl,hlo,hhi,cs,hcs,hrd,rfl⟩ := hread i all[i] (by simp)
   have hp := hI all[i] (by simp)
   refine ne ⟨by omega,hlt⟩ ?_
   refine ld Aa (v := Bp all[i]) (k2.range hrd id) rfl ?_
   refine nd fun p5 w4 e4 s4 k4 m4 => ?_
   refine st Aa (cs := [.int .i64 0,.int .i64 0]) m4 rfl (Nat.le_refl 2) rfl ?_
   intro w5 s5 k5 m5
   have m10 : Own w5 p5 192 (Ao all[i]) := m5
   have k25 : Kp w2 w5 := k4.new e4 k5
   have hm5 := hm.chg k25 id
   have hnot : all[i] ∉ all.take i := fun hmem => by
    have hd := ha.nodup
    rw [← List.take_append_drop i all,List.nodup_append] at hd
    exact hd.2.2 _ hmem _ (by rw [List.drop_eq_getElem_cons hi']; exact List.mem_cons_self) rfl
   have n10 : p5 ≠ m3 := hm5.ne m10
   have hpre := I1 prog 192 Bp (fun n : Int => .int .i64 n) 0 m3 all[i]
   refine Dg Aa mixed 6 (by kernel_rfl) _ hpre ?_
   conv => whnf
   refine Gy (v := Bp all[i]) hpre Aa rfl rfl (fun W h _ => h.chg.range (Own.at_ (xs := Ao all[i]) (o := 0) m10 rfl) n10) (by rfl) fun _ => ?_
   conv => whnf
   refine Zt (v := .int .i64 0) hpre rfl (fun W h _ => by
    obtain ⟨x1,hm1,he1⟩ := h.map _ hm5
    have := MapE.get Aa Bk (t := 190) rfl rfl rfl rfl (z := 0) hm1 all[i] (B2 hp.1 hp.2)
    rw [he1.get,B6,Ed,if_neg hnot] at this
    exact this) fun _ => ?_
   conv => whnf
   refine aw (by omega) (by omega) ?_
   conv => whnf
   refine enr Aa Bk (t := 190) rfl rfl rfl rfl rfl rfl (z := 0) rfl hm5 (B2 hp.1 hp.2) fun st D hD => ?_
   conv => whnf
   intro W10 hW10 hDs
   obtain ⟨x1,hen,he1⟩ := hD W10 (hDs 4)
   refine mu (hen.store 1) ?_
   rintro w11 ⟨hm11,hs11,hc11⟩
   have hones : aput x1 all[i] 1 = B6 (all.take i ++ [all[i]]) := by
    rw [he1.put,B6,B6,Cz fun y hy he => by
     obtain ⟨z,hz,rfl⟩ := List.mem_map.1 hy
     exact hnot (he ▸ hz)]
    rw [List.map_append]; rfl
   rw [hones] at hm11
   refine aw (by omega) (by omega) ?_
   have k11 : Kp w w11 := (k2.trans k25).newS (hW10.chg.trans hc11) fun k hk => by omega
   refine again (i + 1) ⟨rfl,rfl,rfl,rfl,rfl,trivial⟩ ⟨by omega,k11,?_⟩ (by omega)
   rw [show all.take (i + 1) = all.take i ++ [all[i]] by simp]
   exact hm11
 have hall : all.take i = all := List.take_of_length_le (by omega)
 rw [hall] at hm
 clear hall
 refine ld Aa (Own.at_ (xs := [sv]) (k2.own mr id) rfl) (by rfl) ?_
 obtain ⟨sa,sc,rfl,hsc,hsr⟩ := id hgv.sets
 refine sp (fun h0 => ?A) (fun h0 => ?B)
 case' A =>
  refine ne (by decide) ?_
  refine nd fun sb w3 e3 s3 k3 m3' => ?_
  have msb : Own w3 sb 23 [Ad] := m3'
  refine ld Aa (Own.at_ (xs := [.int .i64 g.states]) ((k2.trans k3).own mr id) rfl) (by rfl) ?_
  have hs0 := hg.s0
  have hs1 := hg.s1
  refine loop Aa (σ := Nat × Value) (fun t => [(0,pt r 0),(3,.map (some m3)),(6,.slice (some ⟨sb,0,none⟩) 1 1),(46,.int .i64 g.states),(47,.int .i64 t.1)])
   (fun t W => t.1 ≤ g.states.toNat ∧ Kp w2 W ∧ Own W sb 23 [t.2] ∧ W.ownsRow w3.heap.size 3 1 t.2 t.1 (((List.range t.1).map fun (i : Nat) => (i : Int)).flatMap fun x => [.int .i64 x])) (fun t => g.states.toNat - t.1) (0,Ad)
   ⟨rfl,rfl,rfl,rfl,rfl,trivial⟩ ⟨by simp only; omega,k3,msb,World.ownsRow_nil _ _ _ _⟩ ?_
  rintro ⟨j,v⟩ env2 w4 ⟨hj,k4,hsb,hrow⟩
  simp only at hj hsb hrow
  refine sp (fun hlt2 => ?_) (fun hge2 => ?C)
  case' C =>
   have hjn : j = g.states.toNat := by omega
   subst hjn
   have hrr := Av (f := fun x : Int => [Value.int .i64 x]) (fun _ => rfl) hrow (by decide)
   have hsets : H6 0 w4.heap.size w4 (.slice (some ⟨sb,0,none⟩) (A4 g).length 1) (A4 g) := by
    have hset1 : A4 g = [Y7 g.states] := by unfold A4; rw [if_pos (by omega)]
    rw [hset1]
    refine Wp hsb (fun q y hy => ?_) rfl (Nat.le_refl _) (Nat.zero_le _) hsb.lt
    cases q with
    | zero =>
     simp at hy
     subst hy
     exact ⟨v,rfl,v,rfl,hrr.mono (fun _ _ h => h) (Nat.zero_le _) (Nat.le_refl _),by unfold Y7; simp; omega⟩
    | succ q => simp at hy
   have kws : Kp w2 w4 := k4
   have hSL : (A4 g).length = 1 := by unfold A4; rw [if_pos (by omega)]; rfl
   obtain ⟨A0,C0,hA0,hC0,hset⟩ := hsets
   have hA1 := (Value.slice.inj hA0).1
   subst hA1
   have hm4 : Cs w4 m3 (B6 all) := hm.chg kws id
   have hk4 : Kp w w4 := k2.trans kws
   refine loop Aa (σ := Int × Nat × List Ag) (fun t => [(0,pt r 0),(3,.map (some t.2.1)),(6,.slice (some ⟨sb,0,none⟩) 1 1),(8,.int .i64 t.1)])
    (fun t W => Kp w4 W ∧ Cs W t.2.1 (B6 t.2.2) ∧ AccI g x all t.2.2 ∧ (t.1 = t.2.2.length → Xk g x t.2.2 (A4 g))) (fun t => t.2.2.length + (if t.1 = t.2.2.length then 0 else 1)) (-1,m3,all)
    ⟨rfl,rfl,rfl,rfl,trivial⟩ ⟨Chg.refl _ _,hm4,⟨ha.nodup,fun _ h => h,fun X h1 _ => h1⟩,fun h => by simp only at h; omega⟩ ?_
   rintro ⟨was,mi,lin⟩ env5 W5 ⟨kW,hmi,hA,hfx⟩
   simp only at hmi hA hfx
   have hlin := A8 hA.nodup hA.sub
   have hol : (B6 lin).length = lin.length := by simp [B6]
   refine lm (t := 190) Aa rfl rfl rfl rfl hmi ?_
   rw [hol]
   refine sp (fun hne => ?_) (fun heq => ?_)
   · refine lm (t := 190) Aa rfl rfl rfl rfl hmi ?_
     rw [hol]
     refine loop Aa (σ := Nat × Nat × List Ag) (fun t => [(0,pt r 0),(3,.map (some t.2.1)),(6,.slice (some ⟨sb,0,none⟩) 1 1),(8,.int .i64 lin.length),(65,.slice (some ⟨sb,0,none⟩) 1 1),(66,.int .i64 (1 : Nat)),(67,.int .i64 t.1)])
      (fun t W => t.1 ≤ (A4 g).length ∧ Kp w4 W ∧ Cs W t.2.1 (B6 t.2.2) ∧ AccI g x all t.2.2 ∧ CutI g x lin t.2.2 ((A4 g).take t.1)) (fun t => (A4 g).length - t.1) (0,mi,lin)
      ⟨rfl,rfl,rfl,rfl,rfl,rfl,rfl,trivial⟩ ⟨Nat.zero_le _,kW,hmi,hA,⟨fun _ h => h,fun _ => ⟨fun _ h => h,fun _ _ _ h => by simp at h⟩⟩⟩ ?_
     rintro ⟨j,mj,linj⟩ env6 W6 ⟨hj6,k6,hm6,hA6,hC6⟩
     simp only at hj6 hm6 hA6 hC6
     refine sp (fun hlt6 => ?_) (fun hge6 => ?_)
     · have hj' : j < (A4 g).length := by rw [hSL]; omega
       obtain ⟨b6,o6,hAe,hlo6,hhi6,cs6,hcs6,hrd6,u,rfl,hu,hul⟩ := hset j (A4 g)[j] (by simp)
       obtain rfl : sb = b6 := congrArg Addr.block (Option.some.inj hAe)
       obtain rfl : 0 = o6 := congrArg Addr.off (Option.some.inj hAe)
       refine ne ⟨by omega,hlt6⟩ ?_
       refine ld Aa (v := u) (k6.range hrd6 id) (by rfl) ?_
       refine nd fun mt w7 e7 s7 k7 m7 => ?_
       have hmt : Cs w7 mt (B6 []) := MapE.made m7 Ej
       refine ld Aa (Own.at_ (xs := [.slice ava all.length avc]) ((hk4.trans (k6.trans k7)).own mr id) rfl) (by rfl) ?_
       refine loop Aa (σ := Nat × List Ag) (fun t => [(0,pt r 0),(3,.map (some mj)),(6,.slice (some ⟨sb,0,none⟩) 1 1),(8,.int .i64 lin.length),(10,u),(11,.map (some mt)),(65,.slice (some ⟨sb,0,none⟩) 1 1),(66,.int .i64 (1 : Nat)),(67,.int .i64 j),(75,.slice ava all.length avc),(76,.int .i64 all.length),(77,.int .i64 t.1)])
        (fun t W => t.1 ≤ all.length ∧ Kp W6 W ∧ Cs W mt (B6 t.2) ∧ t.2 = (all.take t.1).filter (fun p => decide (p.1 ∈ (A4 g)[j] ∧ p ∈ linj))) (fun t => all.length - t.1) (0,[])
        ⟨rfl,rfl,rfl,rfl,rfl,rfl,rfl,rfl,rfl,rfl,rfl,rfl,trivial⟩ ⟨Nat.zero_le _,k7,hmt,by simp⟩ ?_
       rintro ⟨i,lto⟩ env7 w8 ⟨hi8,k8,hmt8,hlto⟩
       simp only at hi8 hmt8 hlto
       refine sp (fun hlt8 => ?_) (fun hge8 => ?_)
       · have hi' : i < all.length := by omega
         obtain ⟨b,o,rfl,hlo,hhi9,cs,hcs,hrd,rfl⟩ := hread i all[i] (by simp)
         have hp := hI all[i] (by simp)
         refine ne ⟨by omega,hlt8⟩ ?_
         have k08 : Kp w w8 := hk4.trans (k6.trans k8)
         refine ld Aa (v := Bp all[i]) (k08.range hrd id) rfl ?_
         refine nd fun p13 w9 e9 s9 k9 m9 => ?_
         refine st Aa (cs := [.int .i64 0,.int .i64 0]) m9 rfl (Nat.le_refl 2) rfl ?_
         intro w10 s10 k10 m10
         have m13 : Own w10 p13 192 (Ao all[i]) := m10
         have k810 : Kp w8 w10 := k9.new e9 k10
         refine ld Aa (Own.at_ (xs := [.int .i64 all[i].1]) m13 rfl) (by rfl) ?_
         have hbin := Hm (hu.chg (k6.trans (k8.trans k810)) (fun _ _ _ h => h) (fun _ _ h => h)) hul (hsorted _ (List.getElem_mem hj')) all[i].1
         obtain ⟨d,hd⟩ : ∃ d,d = decide (all[i].1 ∈ (A4 g)[j]) := ⟨_,rfl⟩
         rw [← hd] at hbin
         refine cl E6 hbin ?_
         rintro _ w11 ⟨⟨kk,rfl⟩,k11⟩
         have k8b : Kp w8 w11 := k810.trans k11
         have hmt11 : Cs w11 mt (B6 lto) := hmt8.chg k8b id
         have m13' : Own w11 p13 192 (Ao all[i]) := k11.own m13 id
         have hsnoc : all.take (i + 1) = all.take i ++ [all[i]] := by simp
         have hfl : (all.take (i + 1)).filter (fun p => decide (p.1 ∈ (A4 g)[j] ∧ p ∈ linj)) = lto ++ if all[i].1 ∈ (A4 g)[j] ∧ all[i] ∈ linj then [all[i]] else [] := by
          rw [hsnoc,List.filter_append,← hlto]
          congr 1
          by_cases hc : all[i].1 ∈ (A4 g)[j] ∧ all[i] ∈ linj
          · rw [if_pos hc,List.filter_cons_of_pos (by simpa using hc)]; rfl
          · rw [if_neg hc,List.filter_cons_of_neg (by simpa using hc)]; rfl
         cases d with
         | false =>
          have hd' := of_decide_eq_false hd.symm
          refine aw (by omega) (by omega) ?_
          refine again (i + 1,lto) ⟨rfl,rfl,rfl,rfl,rfl,rfl,rfl,rfl,rfl,rfl,rfl,rfl,trivial⟩ ⟨by simp only; omega,k8.trans k8b,hmt11,?_⟩ (by simp only; omega)
          simp only [hfl]
          rw [if_neg fun h => hd' h.1,List.append_nil]
         | true =>
          have hd' := of_decide_eq_true hd.symm
          refine ld Aa (v := Bp all[i]) (Own.at_ (xs := Ao all[i]) (o := 0) m13' rfl) (by rfl) ?_
          refine lk (Vr (hm6.chg (k8.trans k8b) id) hp.1 hp.2) ?_
          by_cases c2 : all[i] ∈ linj
          · rw [if_pos c2]
            refine Dj (by decide) ?_
            have hnot : all[i] ∉ lto := fun hmem => by
             rw [hlto] at hmem
             have hmem := (List.mem_filter.1 hmem).1
             have hd := ha.nodup
             rw [← List.take_append_drop i all,List.nodup_append] at hd
             exact hd.2.2 _ hmem _ (by rw [List.drop_eq_getElem_cons hi']; exact List.mem_cons_self) rfl
            have n13 : p13 ≠ mt := hmt11.ne m13'
            have hpre := I1 prog 192 Bp (fun n : Int => .int .i64 n) 0 mt all[i]
            refine Dg Aa mixed 6 (by kernel_rfl) _ hpre ?_
            conv => whnf
            refine Gy (v := Bp all[i]) hpre Aa rfl rfl (fun W h _ => h.chg.range (Own.at_ (xs := Ao all[i]) (o := 0) m13' rfl) n13) (by rfl) fun _ => ?_
            conv => whnf
            refine Zt (v := .int .i64 0) hpre rfl (fun W h _ => by
             obtain ⟨x1,hm1,he1⟩ := h.map _ hmt11
             have := MapE.get Aa Bk (t := 190) rfl rfl rfl rfl (z := 0) hm1 all[i] (B2 hp.1 hp.2)
             rw [he1.get,B6,Ed,if_neg hnot] at this
             exact this) fun _ => ?_
            conv => whnf
            refine aw (by omega) (by omega) ?_
            conv => whnf
            refine enr Aa Bk (t := 190) rfl rfl rfl rfl rfl rfl (z := 0) rfl hmt11 (B2 hp.1 hp.2) fun st D hD => ?_
            conv => whnf
            intro W10 hW10 hDs
            obtain ⟨x1,hen,he1⟩ := hD W10 (hDs 4)
            refine mu (hen.store 1) ?_
            rintro w11' ⟨hm11,hs11,hc11⟩
            have hones : aput x1 all[i] 1 = B6 (lto ++ [all[i]]) := by
             rw [he1.put,B6,B6,Cz fun y hy he => by
              obtain ⟨z,hz,rfl⟩ := List.mem_map.1 hy
              exact hnot (he ▸ hz)]
             rw [List.map_append]; rfl
            rw [hones] at hm11
            refine aw (by omega) (by omega) ?_
            have k11' : Kp W6 w11' := (k8.trans k8b).newS (hW10.chg.trans hc11) fun k hk => by omega
            refine again (i + 1,lto ++ [all[i]]) ⟨rfl,rfl,rfl,rfl,rfl,rfl,rfl,rfl,rfl,rfl,rfl,rfl,trivial⟩ ⟨by simp only; omega,k11',hm11,?_⟩ (by simp only; omega)
            simp only [hfl]
            rw [if_pos ⟨hd',c2⟩]
          · rw [if_neg c2]
            refine Bs (by decide) ?_
            refine aw (by omega) (by omega) ?_
            refine again (i + 1,lto) ⟨rfl,rfl,rfl,rfl,rfl,rfl,rfl,rfl,rfl,rfl,rfl,rfl,trivial⟩ ⟨by simp only; omega,k8.trans k8b,hmt11,?_⟩ (by simp only; omega)
            simp only [hfl]
            rw [if_neg fun h => c2 h.2,List.append_nil]
       · have k08 : Kp w w8 := hk4.trans (k6.trans k8)
         have htk : all.take i = all := List.take_of_length_le (by omega)
         rw [htk] at hlto
         have hbef := Um (hr.chg k08 (Nat.le_refl _)) ha hg hx hP hE (hm6.chg k8 id) hmt8
         refine cl Pd hbef ?_
         rintro _ w9 ⟨k9,mo,lout,rfl,hmo,hsz,hnd,hl⟩
         refine aw (by omega) (by omega) ?_
         obtain ⟨hA',hC'⟩ := hC6.step hA hA6 (List.getElem_mem hj') (fun p => by rw [hlto,List.mem_filter,decide_eq_true_eq]) hnd hl
         refine again (j + 1,mo,lout) ⟨rfl,rfl,rfl,rfl,rfl,rfl,rfl,trivial⟩ ⟨by simp only; omega,k6.trans (k8.trans k9),hmo,hA',?_⟩ (by simp only; omega)
         rw [show (A4 g).take (j + 1) = (A4 g).take j ++ [(A4 g)[j]] by simp]
         exact hC'
     · rw [List.take_of_length_le (by omega)] at hC6
       have hll := A8 hA6.nodup hC6.sub
       refine again ((lin.length : Int),mj,linj) ⟨rfl,rfl,rfl,rfl,trivial⟩ ⟨k6,hm6,hA6,fun he => ?_⟩ ?_
       · simp only at he
         obtain ⟨f1,f2⟩ := hC6.fixed (by omega)
         exact fun p hp F hF => (f2 p (hC6.sub p hp) F hF).mono (fun q hq => f1 q hq) fun _ _ h => h
       · simp only
         rw [if_neg hne]
         split <;> omega
   · have heq' : was = (lin.length : Int) := Classical.byContradiction fun h => heq h
     refine lm (t := 190) Aa rfl rfl rfl rfl hmi ?_
     rw [hol]
     refine Zc ?_
     refine ⟨congrArg Value.bool ?_,hk4.trans kW⟩
     have := hA.accP ha (hfx heq')
     unfold Hn
     by_cases hc : Y2 g x
     · rw [@decide_eq_true _ (Classical.propDecidable _) hc,decide_eq_true (by have := this.2 hc; omega)]
     · rw [@decide_eq_false _ (Classical.propDecidable _) hc,decide_eq_false (by intro h; exact hc (this.1 (by omega)))]
  obtain ⟨va,vc,rfl⟩ := Ae hrow
  refine ne (by decide) ?_
  refine ld Aa (Own.at_ (xs := [.slice va j vc]) hsb rfl) (by rfl) ?_
  refine ne (by decide) ?_
  refine nd fun q w5 e5 s5 k5 m5 => ?_
  have hrow5 := Ab hrow k5 (fun _ _ => id)
  refine ap (m := 1) (news := [.int .i64 j]) Aa rfl rfl rfl rfl rfl rfl rfl (by decide) hrow5 rfl (Own.at_ (xs := [.int .i64 j]) (o := 0) m5 rfl) rfl (by simp only [maxLen]; omega) (by show (_ + 1) * 8 ≤ _; omega) (by have := hsb.lt; omega) fun v' w6 hown hc6 => ?_
  refine ne (by decide) ?_
  have hsb5 := k5.own hsb id
  have hsb6 := hc6.own hsb5 fun he => Ai hrow5 hsb5 (fun cs fr hh => by injection hh with _ h2; exact absurd h2 (by decide)) he.symm
  obtain ⟨a',cap',rfl⟩ := Ae hown
  refine st Aa hsb6 rfl (Nat.le_refl 1) rfl ?_
  intro w7 s7 k7 m7
  have hb7 : ∀ b,(Value.slice a' (j + 1) cap').ownBlock = some b → ¬ b = sb := fun b hb he => by
   subst he
   exact Ai hown hsb6 (fun cs fr hh => by injection hh with _ h2; exact absurd h2 (by decide)) hb
  refine aw (by omega) (by omega) ?_
  refine again (j + 1,.slice a' (j + 1) cap') ⟨rfl,rfl,rfl,rfl,rfl,trivial⟩ ⟨by simp only; omega,?_,m7,?_⟩ (by simp only; omega)
  · refine (k4.trans k5).newS ((hc6.mono (S' := fun k => some k = (Value.slice va j vc).ownBlock ∨ k = sb) fun _ => .inl).trans (k7.mono fun _ => .inr)) fun k hk => ?_
    rcases hk with hk | hk
    · have := (hrow.lt k hk.symm).1; have := k3.size; omega
    · omega
  · have h1 := Ab hown k7 hb7
    rw [List.range_succ,List.map_append,List.flatMap_append]
    exact h1
 case' B =>
  have kws : Kp w2 w2 := Chg.refl _ _
  have hSe : A4 g = g.sets := by unfold A4; rw [if_neg (by omega)]
  have hSL : (A4 g).length = g.sets.length := by rw [hSe]
  have hset : ∀ i xs,(A4 g)[i]? = some xs → ∃ b o,sa = some ⟨b,o,none⟩ ∧ 0 ≤ b ∧ b < w.heap.size ∧ ∃ cs,cs.length = 1 ∧ w2.rangeAt b (o + i * 1) cs ∧ ∃ u,cs = [u] ∧ Ef 0 w.heap.size w2 u xs ∧ xs.length < 4611686018427387904 := by
   intro i xs hi
   rw [hSe] at hi
   obtain ⟨b,o,h1,h2,h3,cs,h4,h5,u,h6,h7,h8⟩ := hsr i xs hi
   exact ⟨b,o,h1,h2,by omega,cs,h4,k2.range h5 id,u,h6,(h7.chg k2 (fun _ _ _ h => h) (fun _ _ h => h)).mono (fun _ _ h => h) (Nat.le_refl _) hhi,h8⟩
  have hm4 : Cs w2 m3 (B6 all) := hm.chg kws id
  have hk4 : Kp w w2 := k2.trans kws
  refine loop Aa (σ := Int × Nat × List Ag) (fun t => [(0,pt r 0),(3,.map (some t.2.1)),(6,.slice sa g.sets.length sc),(8,.int .i64 t.1)])
   (fun t W => Kp w2 W ∧ Cs W t.2.1 (B6 t.2.2) ∧ AccI g x all t.2.2 ∧ (t.1 = t.2.2.length → Xk g x t.2.2 (A4 g))) (fun t => t.2.2.length + (if t.1 = t.2.2.length then 0 else 1)) (-1,m3,all)
   ⟨rfl,rfl,rfl,rfl,trivial⟩ ⟨Chg.refl _ _,hm4,⟨ha.nodup,fun _ h => h,fun X h1 _ => h1⟩,fun h => by simp only at h; omega⟩ ?_
  rintro ⟨was,mi,lin⟩ env5 W5 ⟨kW,hmi,hA,hfx⟩
  simp only at hmi hA hfx
  have hlin := A8 hA.nodup hA.sub
  have hol : (B6 lin).length = lin.length := by simp [B6]
  refine lm (t := 190) Aa rfl rfl rfl rfl hmi ?_
  rw [hol]
  refine sp (fun hne => ?_) (fun heq => ?_)
  · refine lm (t := 190) Aa rfl rfl rfl rfl hmi ?_
    rw [hol]
    refine loop Aa (σ := Nat × Nat × List Ag) (fun t => [(0,pt r 0),(3,.map (some t.2.1)),(6,.slice sa g.sets.length sc),(8,.int .i64 lin.length),(65,.slice sa g.sets.length sc),(66,.int .i64 (g.sets.length : Nat)),(67,.int .i64 t.1)])
     (fun t W => t.1 ≤ (A4 g).length ∧ Kp w2 W ∧ Cs W t.2.1 (B6 t.2.2) ∧ AccI g x all t.2.2 ∧ CutI g x lin t.2.2 ((A4 g).take t.1)) (fun t => (A4 g).length - t.1) (0,mi,lin)
     ⟨rfl,rfl,rfl,rfl,rfl,rfl,rfl,trivial⟩ ⟨Nat.zero_le _,kW,hmi,hA,⟨fun _ h => h,fun _ => ⟨fun _ h => h,fun _ _ _ h => by simp at h⟩⟩⟩ ?_
    rintro ⟨j,mj,linj⟩ env6 W6 ⟨hj6,k6,hm6,hA6,hC6⟩
    simp only at hj6 hm6 hA6 hC6
    refine sp (fun hlt6 => ?_) (fun hge6 => ?_)
    · have hj' : j < (A4 g).length := by rw [hSL]; omega
      obtain ⟨b6,o6,hAe,hlo6,hhi6,cs6,hcs6,hrd6,u,rfl,hu,hul⟩ := hset j (A4 g)[j] (by simp)
      subst hAe
      refine ne ⟨by omega,hlt6⟩ ?_
      refine ld Aa (v := u) (k6.range hrd6 id) (by rfl) ?_
      refine nd fun mt w7 e7 s7 k7 m7 => ?_
      have hmt : Cs w7 mt (B6 []) := MapE.made m7 Ej
      refine ld Aa (Own.at_ (xs := [.slice ava all.length avc]) ((hk4.trans (k6.trans k7)).own mr id) rfl) (by rfl) ?_
      refine loop Aa (σ := Nat × List Ag) (fun t => [(0,pt r 0),(3,.map (some mj)),(6,.slice (some ⟨b6,o6,none⟩) g.sets.length sc),(8,.int .i64 lin.length),(10,u),(11,.map (some mt)),(65,.slice (some ⟨b6,o6,none⟩) g.sets.length sc),(66,.int .i64 (g.sets.length : Nat)),(67,.int .i64 j),(75,.slice ava all.length avc),(76,.int .i64 all.length),(77,.int .i64 t.1)])
       (fun t W => t.1 ≤ all.length ∧ Kp W6 W ∧ Cs W mt (B6 t.2) ∧ t.2 = (all.take t.1).filter (fun p => decide (p.1 ∈ (A4 g)[j] ∧ p ∈ linj))) (fun t => all.length - t.1) (0,[])
       ⟨rfl,rfl,rfl,rfl,rfl,rfl,rfl,rfl,rfl,rfl,rfl,rfl,trivial⟩ ⟨Nat.zero_le _,k7,hmt,by simp⟩ ?_
      rintro ⟨i,lto⟩ env7 w8 ⟨hi8,k8,hmt8,hlto⟩
      simp only at hi8 hmt8 hlto
      refine sp (fun hlt8 => ?_) (fun hge8 => ?_)
      · have hi' : i < all.length := by omega
        obtain ⟨b,o,rfl,hlo,hhi9,cs,hcs,hrd,rfl⟩ := hread i all[i] (by simp)
        have hp := hI all[i] (by simp)
        refine ne ⟨by omega,hlt8⟩ ?_
        have k08 : Kp w w8 := hk4.trans (k6.trans k8)
        refine ld Aa (v := Bp all[i]) (k08.range hrd id) rfl ?_
        refine nd fun p13 w9 e9 s9 k9 m9 => ?_
        refine st Aa (cs := [.int .i64 0,.int .i64 0]) m9 rfl (Nat.le_refl 2) rfl ?_
        intro w10 s10 k10 m10
        have m13 : Own w10 p13 192 (Ao all[i]) := m10
        have k810 : Kp w8 w10 := k9.new e9 k10
        refine ld Aa (Own.at_ (xs := [.int .i64 all[i].1]) m13 rfl) (by rfl) ?_
        have hbin := Hm (hu.chg (k6.trans (k8.trans k810)) (fun _ _ _ h => h) (fun _ _ h => h)) hul (hsorted _ (List.getElem_mem hj')) all[i].1
        obtain ⟨d,hd⟩ : ∃ d,d = decide (all[i].1 ∈ (A4 g)[j]) := ⟨_,rfl⟩
        rw [← hd] at hbin
        refine cl E6 hbin ?_
        rintro _ w11 ⟨⟨kk,rfl⟩,k11⟩
        have k8b : Kp w8 w11 := k810.trans k11
        have hmt11 : Cs w11 mt (B6 lto) := hmt8.chg k8b id
        have m13' : Own w11 p13 192 (Ao all[i]) := k11.own m13 id
        have hsnoc : all.take (i + 1) = all.take i ++ [all[i]] := by simp
        have hfl : (all.take (i + 1)).filter (fun p => decide (p.1 ∈ (A4 g)[j] ∧ p ∈ linj)) = lto ++ if all[i].1 ∈ (A4 g)[j] ∧ all[i] ∈ linj then [all[i]] else [] := by
         rw [hsnoc,List.filter_append,← hlto]
         congr 1
         by_cases hc : all[i].1 ∈ (A4 g)[j] ∧ all[i] ∈ linj
         · rw [if_pos hc,List.filter_cons_of_pos (by simpa using hc)]; rfl
         · rw [if_neg hc,List.filter_cons_of_neg (by simpa using hc)]; rfl
        cases d with
        | false =>
         have hd' := of_decide_eq_false hd.symm
         refine aw (by omega) (by omega) ?_
         refine again (i + 1,lto) ⟨rfl,rfl,rfl,rfl,rfl,rfl,rfl,rfl,rfl,rfl,rfl,rfl,trivial⟩ ⟨by simp only; omega,k8.trans k8b,hmt11,?_⟩ (by simp only; omega)
         simp only [hfl]
         rw [if_neg fun h => hd' h.1,List.append_nil]
        | true =>
         have hd' := of_decide_eq_true hd.symm
         refine ld Aa (v := Bp all[i]) (Own.at_ (xs := Ao all[i]) (o := 0) m13' rfl) (by rfl) ?_
         refine lk (Vr (hm6.chg (k8.trans k8b) id) hp.1 hp.2) ?_
         by_cases c2 : all[i] ∈ linj
         · rw [if_pos c2]
           refine Dj (by decide) ?_
           have hnot : all[i] ∉ lto := fun hmem => by
            rw [hlto] at hmem
            have hmem := (List.mem_filter.1 hmem).1
            have hd := ha.nodup
            rw [← List.take_append_drop i all,List.nodup_append] at hd
            exact hd.2.2 _ hmem _ (by rw [List.drop_eq_getElem_cons hi']; exact List.mem_cons_self) rfl
           have n13 : p13 ≠ mt := hmt11.ne m13'
           have hpre := I1 prog 192 Bp (fun n : Int => .int .i64 n) 0 mt all[i]
           refine Dg Aa mixed 6 (by kernel_rfl) _ hpre ?_
           conv => whnf
           refine Gy (v := Bp all[i]) hpre Aa rfl rfl (fun W h _ => h.chg.range (Own.at_ (xs := Ao all[i]) (o := 0) m13' rfl) n13) (by rfl) fun _ => ?_
           conv => whnf
           refine Zt (v := .int .i64 0) hpre rfl (fun W h _ => by
            obtain ⟨x1,hm1,he1⟩ := h.map _ hmt11
            have := MapE.get Aa Bk (t := 190) rfl rfl rfl rfl (z := 0) hm1 all[i] (B2 hp.1 hp.2)
            rw [he1.get,B6,Ed,if_neg hnot] at this
            exact this) fun _ => ?_
           conv => whnf
           refine aw (by omega) (by omega) ?_
           conv => whnf
           refine enr Aa Bk (t := 190) rfl rfl rfl rfl rfl rfl (z := 0) rfl hmt11 (B2 hp.1 hp.2) fun st D hD => ?_
           conv => whnf
           intro W10 hW10 hDs
           obtain ⟨x1,hen,he1⟩ := hD W10 (hDs 4)
           refine mu (hen.store 1) ?_
           rintro w11' ⟨hm11,hs11,hc11⟩
           have hones : aput x1 all[i] 1 = B6 (lto ++ [all[i]]) := by
            rw [he1.put,B6,B6,Cz fun y hy he => by
             obtain ⟨z,hz,rfl⟩ := List.mem_map.1 hy
             exact hnot (he ▸ hz)]
            rw [List.map_append]; rfl
           rw [hones] at hm11
           refine aw (by omega) (by omega) ?_
           have k11' : Kp W6 w11' := (k8.trans k8b).newS (hW10.chg.trans hc11) fun k hk => by omega
           refine again (i + 1,lto ++ [all[i]]) ⟨rfl,rfl,rfl,rfl,rfl,rfl,rfl,rfl,rfl,rfl,rfl,rfl,trivial⟩ ⟨by simp only; omega,k11',hm11,?_⟩ (by simp only; omega)
           simp only [hfl]
           rw [if_pos ⟨hd',c2⟩]
         · rw [if_neg c2]
           refine Bs (by decide) ?_
           refine aw (by omega) (by omega) ?_
           refine again (i + 1,lto) ⟨rfl,rfl,rfl,rfl,rfl,rfl,rfl,rfl,rfl,rfl,rfl,rfl,trivial⟩ ⟨by simp only; omega,k8.trans k8b,hmt11,?_⟩ (by simp only; omega)
           simp only [hfl]
           rw [if_neg fun h => c2 h.2,List.append_nil]
      · have k08 : Kp w w8 := hk4.trans (k6.trans k8)
        have htk : all.take i = all := List.take_of_length_le (by omega)
        rw [htk] at hlto
        have hbef := Um (hr.chg k08 (Nat.le_refl _)) ha hg hx hP hE (hm6.chg k8 id) hmt8
        refine cl Pd hbef ?_
        rintro _ w9 ⟨k9,mo,lout,rfl,hmo,hsz,hnd,hl⟩
        refine aw (by omega) (by omega) ?_
        obtain ⟨hA',hC'⟩ := hC6.step hA hA6 (List.getElem_mem hj') (fun p => by rw [hlto,List.mem_filter,decide_eq_true_eq]) hnd hl
        refine again (j + 1,mo,lout) ⟨rfl,rfl,rfl,rfl,rfl,rfl,rfl,trivial⟩ ⟨by simp only; omega,k6.trans (k8.trans k9),hmo,hA',?_⟩ (by simp only; omega)
        rw [show (A4 g).take (j + 1) = (A4 g).take j ++ [(A4 g)[j]] by simp]
        exact hC'
    · rw [List.take_of_length_le (by omega)] at hC6
      have hll := A8 hA6.nodup hC6.sub
      refine again ((lin.length : Int),mj,linj) ⟨rfl,rfl,rfl,rfl,trivial⟩ ⟨k6,hm6,hA6,fun he => ?_⟩ ?_
      · simp only at he
        obtain ⟨f1,f2⟩ := hC6.fixed (by omega)
        exact fun p hp F hF => (f2 p (hC6.sub p hp) F hF).mono (fun q hq => f1 q hq) fun _ _ h => h
      · simp only
        rw [if_neg hne]
        split <;> omega
  · have heq' : was = (lin.length : Int) := Classical.byContradiction fun h => heq h
    refine lm (t := 190) Aa rfl rfl rfl rfl hmi ?_
    rw [hol]
    refine Zc ?_
    refine ⟨congrArg Value.bool ?_,hk4.trans kW⟩
    have := hA.accP ha (hfx heq')
    unfold Hn
    by_cases hc : Y2 g x
    · rw [@decide_eq_true _ (Classical.propDecidable _) hc,decide_eq_true (by have := this.2 hc; omega)]
    · rw [@decide_eq_false _ (Classical.propDecidable _) hc,decide_eq_false (by intro h; exact hc (this.1 (by omega)))]
theorem Ug : Af prog 105 = true := by kernel_rfl
noncomputable def Me (g : General) (x : Word) : Bool × Int := if Al g = true then (if Gc x g.props.length = true then (Hn g x,0) else (false,101)) else (false,100)
theorem C2 {g : General} (h : Al g = true) : g.props.length ≤ 8 := by
 simp only [Al,Bool.and_eq_true] at h
 have := h.1.1.1.1.1
 simp only [Bz,Bool.and_eq_true] at this
 exact of_decide_eq_true this.2
theorem Et {g : General} (h : Al g = true) : ∀ l ∈ g.sets,l.Pairwise (· ≤ ·) := fun l hl => by
 simp only [Al,Bool.and_eq_true] at h
 exact (Jh (List.all_eq_true.1 h.2 l hl)).1
theorem Wf {w : World} {pv iv ev sv stv lov : Value} {g : General} {x : Word} (hv : GenV 0 w.heap.size w pv iv ev sv g) (hw : WordV 0 w.heap.size w stv lov x) (hE : g.edges.length < 1099511627776) (hP : x.places < 1048576) :
 Calls prog 73 [.agg #[pv,.int .i64 g.states,iv,ev,sv],.agg #[stv,lov]].toArray w (Bg fun v w' => v = .tuple #[.bool (Me g x).1,.int .i64 (Me g x).2] ∧ Kp w w') := by
 obtain ⟨pa,pc,hpv,-⟩ := id hv.props
 subst hpv
 refine call Aa func73 rfl ntmps73 (by kernel_rfl) ?_
 refine nd fun p2 w1 e1 s1 k1 m1 => ?_
 have m2 : Own w1 p2 27 [.slice pa g.props.length pc,.int .i64 g.states,iv,ev,sv] := m1
 refine nd fun p3 w2 e2 s2 k2 m3 => ?_
 have m3 : Own w2 p3 33 [stv,lov] := m3
 have m2 := k2.own m2 id
 have k12 := k1.trans k2
 refine ld Aa (v := .agg #[.slice pa g.props.length pc,.int .i64 g.states,iv,ev,sv]) (Own.at_ (xs := [.slice pa g.props.length pc,.int .i64 g.states,iv,ev,sv]) (o := 0) m2 rfl) (by rfl) ?_
 have hchk := R2 (hv.chg k12 (Nat.le_refl _) (Nat.le_refl _))
 refine cl Ki hchk ?_
 rintro _ w3 ⟨rfl,k3⟩
 cases hc : Al g with
 | false =>
  refine Dj (by decide) ?_
  exact ⟨by simp [Me,hc]; rfl,k12.trans k3⟩
 | true =>
  refine Bs (by decide) ?_
  have m3' := k3.own m3 id
  have m2' := k3.own m2 id
  refine ld Aa (v := .agg #[stv,lov]) (Own.at_ (xs := [stv,lov]) (o := 0) m3' rfl) (by rfl) ?_
  refine ld Aa (Own.at_ (xs := [.slice pa g.props.length pc]) (o := 0) m2' rfl) (by rfl) ?_
  have hwc := Y5 (n := g.props.length) (hw.chg (k12.trans k3) (Nat.le_refl _) (Nat.le_refl _)) (C2 hc)
  refine cl Vy hwc ?_
  rintro _ w4 ⟨rfl,k4⟩
  have k14 := k12.trans (k3.trans k4)
  cases hk : Gc x g.props.length with
  | false =>
   refine Dj (by decide) ?_
   exact ⟨by simp [Me,hc,hk]; rfl,k14⟩
  | true =>
   refine Bs (by decide) ?_
   refine ld Aa (v := .agg #[.slice pa g.props.length pc,.int .i64 g.states,iv,ev,sv]) (Own.at_ (xs := [.slice pa g.props.length pc,.int .i64 g.states,iv,ev,sv]) (o := 0) (k4.own m2' id) rfl) (by rfl) ?_
   refine ld Aa (v := .agg #[stv,lov]) (Own.at_ (xs := [stv,lov]) (o := 0) (k4.own m3' id) rfl) (by rfl) ?_
   have hb := AaE (hv.chg k14 (Nat.le_refl _) k14.size) (hw.chg k14 (Nat.le_refl _) k14.size) (Good.of hc) (Mf hk) hE hP
   refine cl V7 hb ?_
   rintro _ w5 ⟨k5,r,all,rfl,ha,hr⟩
   have hacc := Yz hr (Nat.le_refl _) ha (Good.of hc) (Et hc) (Mf hk) hP hE
   refine cl Ug hacc ?_
   rintro _ w6 ⟨rfl,k6⟩
   exact ⟨by simp [Me,hc,hk]; rfl,k14.trans (k5.trans k6)⟩
theorem Sc : Af prog 73 = true := by kernel_rfl
theorem Pg {w : World} {pv iv ev fv stv lov : Value} {g : Buchi} {x : Word} (hv : BuchiV 0 w.heap.size w pv iv ev fv g) (hw : WordV 0 w.heap.size w stv lov x) (hE : g.edges.length < 1099511627776) (hP : x.places < 1048576) :
 Calls prog 22 [.agg #[pv,.int .i64 g.states,iv,ev,fv],.agg #[stv,lov]].toArray w (Bg fun v w' => v = .tuple #[.bool (Me g.general x).1,.int .i64 (Me g.general x).2] ∧ Kp w w') := by
 obtain ⟨a1,c1,hh1,-⟩ := id hv.props
 obtain ⟨a2,c2,hh2,-⟩ := id hv.init
 obtain ⟨a3,c3,hh3,-⟩ := id hv.edges
 obtain ⟨a4,c4,hh4,-⟩ := id hv.final
 subst hh1 hh2 hh3 hh4
 refine call Aa func22 rfl ntmps22 (by kernel_rfl) ?_
 refine nd fun p2 w1 e1 s1 k1 m1 => ?_
 have m2 : Own w1 p2 29 [.slice a1 g.props.length c1,.int .i64 g.states,.slice a2 g.init.length c2,.slice a3 g.edges.length c3,.slice a4 g.final.length c4] := m1
 refine nd fun p3 w2 e2 s2 k2 m3 => ?_
 have m3 : Own w2 p3 33 [stv,lov] := m3
 have m2 := k2.own m2 id
 have k12 := k1.trans k2
 refine Gn Aa mixed 8 [0,1,2,3,4,5,6,7] (by kernel_rfl) ?_
 conv => whnf
 refine A7 (v := .agg #[.slice a1 g.props.length c1,.int .i64 g.states,.slice a2 g.init.length c2,.slice a3 g.edges.length c3,.slice a4 g.final.length c4]) Aa rfl rfl (fun W h _ => Own.at_ (xs := [.slice a1 g.props.length c1,.int .i64 g.states,.slice a2 g.init.length c2,.slice a3 g.edges.length c3,.slice a4 g.final.length c4]) (o := 0) (h.own m2 id) rfl) (by rfl) fun _ => ?_
 conv => whnf
 refine Gp (fun q : Nat => .agg #[.slice a1 g.props.length c1,.int .i64 g.states,.slice a2 g.init.length c2,.slice a3 g.edges.length c3,.slice (some ⟨q,0,none⟩) 1 1]) (fun q W => W.heap[q]? = some (.cells [.slice a4 g.final.length c4].toArray 23 (0,0))) rfl rfl rfl (fun q W W' h k => k.heap h id) Mv (fun W h _ => (Qo W a1 a2 a3 a4 _ c1 _ c2 _ c3 _ c4 g.states).mono fun en W' hr => ?_) fun q D hD => ?_
 · cases en with
   | returned v =>
    obtain ⟨k,q,h1,h2,h3,h4⟩ := hr
    exact ⟨k,q,h4,h3⟩
   | _ => exact hr.elim
 conv => whnf
 refine A7 (v := .agg #[stv,lov]) Aa rfl rfl (fun W h _ => Own.at_ (xs := [stv,lov]) (o := 0) (h.own m3 id) rfl) (by rfl) fun _ => ?_
 conv => whnf
 refine Co (v := .tuple #[.bool (Me g.general x).1,.int .i64 (Me g.general x).2]) rfl rfl rfl Sc (fun W h h2 => by
  have hq := hD W (h2 1 (by kernel_rfl))
  have hg := (hv.chg (k12.trans h) (Nat.le_refl _) (k12.trans h).size).general hq
  have hlt := Am hq
  have hgg := hg.chg (Chg.refl _ W) (Nat.le_refl _) (show max W.heap.size (q + 1) ≤ W.heap.size by omega)
  exact Wf hgg (hw.chg (k12.trans h) (Nat.le_refl _) (k12.trans h).size) hE hP) fun _ => ?_
 conv => whnf
 intro W h _
 exact ⟨rfl,k12.trans h⟩
theorem Lo : Af prog 22 = true := by kernel_rfl
def kA : Buchi := { props := [⟨#[97]⟩],states := 1,init := [0],edges := [⟨0,0,1,0⟩],final := [0] }
def kW1 : Word := { stem := [],loop := [1] }
def kW2 : Word := { stem := [1],loop := [1,0] }
theorem Vp : Al kA.general = true := by decide +kernel
theorem Ai4 : Gc kW1 kA.general.props.length = true := by decide +kernel
theorem Ai3 : Gc kW2 kA.general.props.length = true := by decide +kernel
theorem AbR : A4 kA.general = [[0]] := by rfl
theorem kS1 : succ kA.general kW1 (0,0) = [(0,0)] := by decide +kernel
theorem Af9 : succ kA.general kW2 (0,0) = [(0,1)] := by decide +kernel
theorem Af8 : succ kA.general kW2 (0,1) = [(0,2)] := by decide +kernel
theorem Af7 : succ kA.general kW2 (0,2) = [] := by decide +kernel
theorem AgB : Me kA.general kW1 = (true,0) := by
 have h : Y2 kA.general kW1 := by
  refine ⟨fun p => p = (0,0),⟨_,rfl⟩,fun p hp X h1 _ => by rw [hp]; exact h1 0 (by simp [kA,Buchi.general]),fun p hp F hF => ?_⟩
  rw [AbR] at hF
  simp only [List.mem_singleton] at hF
  subst hF hp
  exact .one rfl (by rw [kS1]; simp) rfl (by simp)
 unfold Me
 rw [if_pos Vp,if_pos Ai4]
 unfold Hn
 rw [@decide_eq_true _ (Classical.propDecidable _) h]
theorem AgA : Me kA.general kW2 = (false,0) := by
 have h : ¬ Y2 kA.general kW2 := by
  rintro ⟨X,⟨p,hp⟩,hr,hX⟩
  have step : ∀ p,X p → ∃ q,q ∈ succ kA.general kW2 p ∧ X q := fun p hp => by
   have := hX p hp [0] (by rw [AbR]; simp)
   cases this with
   | one h1 h2 h3 h4 => exact ⟨_,h2,h3⟩
   | more h1 h2 h3 h4 => exact ⟨_,h2,h3⟩
  have n2 : ¬ X (0,2) := fun h => by obtain ⟨q,hq,_⟩ := step _ h; rw [Af7] at hq; simp at hq
  have n1 : ¬ X (0,1) := fun h => by obtain ⟨q,hq,hx⟩ := step _ h; rw [Af8] at hq; simp at hq; subst hq; exact n2 hx
  have n0 : ¬ X (0,0) := fun h => by obtain ⟨q,hq,hx⟩ := step _ h; rw [Af9] at hq; simp at hq; subst hq; exact n1 hx
  have := hr p hp (fun q => q = (0,0) ∨ q = (0,1) ∨ q = (0,2)) (fun s hs => by simp [kA,Buchi.general] at hs; simp [hs]) (fun a q ha hq => by
   rcases ha with rfl | rfl | rfl
   · rw [Af9] at hq; simp at hq; simp [hq]
   · rw [Af8] at hq; simp at hq; simp [hq]
   · rw [Af7] at hq; simp at hq)
  rcases this with rfl | rfl | rfl
  · exact n0 hp
  · exact n1 hp
  · exact n2 hp
 unfold Me
 rw [if_pos Vp,if_pos Ai3]
 unfold Hn
 rw [@decide_eq_false _ (Classical.propDecidable _) h]
theorem Aa7 (w : World) : Calls prog 6 [].toArray w (Bg fun v w' => v = .bool true ∧ Kp w w') := by
 refine call Aa func6 rfl ntmps6 (by kernel_rfl) ?_
 refine ne (by decide) ?_
 refine nd fun b1 w1 e1 s1 k1 m1 => ?_
 refine ne (by decide) ?_
 refine nd fun b2 w2 e2 s2 k2 m2 => ?_
 refine ne (by decide) ?_
 refine nd fun b3 w3 e3 s3 k3 m3 => ?_
 refine ne (by decide) ?_
 refine nd fun b4 w4 e4 s4 k4 m4 => ?_
 refine nd fun p1 w5 e5 s5 k5 m5 => ?_
 refine st Aa (cs := [.slice none 0 0,.int .i64 0,.slice none 0 0,.slice none 0 0,.slice none 0 0]) m5 rfl (Nat.le_refl 5) rfl ?_
 intro w6 s6 k6 m6
 have m6 : Own w6 p1 29 [.slice (some ⟨b1,0,none⟩) 1 1,.int .i64 1,.slice (some ⟨b2,0,none⟩) 1 1,.slice (some ⟨b3,0,none⟩) 1 1,.slice (some ⟨b4,0,none⟩) 1 1] := m6
 have k46 : Kp w4 w6 := k5.new e5 k6
 have k06 : Kp w w6 := k1.trans (k2.trans (k3.trans (k4.trans k46)))
 have hB : BuchiV 0 w6.heap.size w6 (.slice (some ⟨b1,0,none⟩) 1 1) (.slice (some ⟨b2,0,none⟩) 1 1) (.slice (some ⟨b3,0,none⟩) 1 1) (.slice (some ⟨b4,0,none⟩) 1 1) kA := by
  have c1 := (k2.trans (k3.trans (k4.trans k46))).own (show Own w1 b1 9 [.string ⟨#[97]⟩] from m1) id
  have c2 := (k3.trans (k4.trans k46)).own (show Own w2 b2 3 [.int .i64 0] from m2) id
  have c3 := (k4.trans k46).own (show Own w3 b3 67 [.int .i64 0,.int .i64 0,.int .u16 1,.int .u16 0] from m3) id
  have c4 := k46.own (show Own w4 b4 3 [.int .i64 0] from m4) id
  have g1 := C8 (f := fun x : ByteArray => [Value.string x]) (l := [⟨#[97]⟩]) (size := 1) (fun _ => rfl) (by decide) c1 (by simp [maxLen])
  have g2 := C8 (f := fun x : Int => [Value.int .i64 x]) (l := [0]) (size := 1) (fun _ => rfl) (by decide) c2 (by simp [maxLen])
  have g3 := C8 (f := Edge.cells) (l := [⟨0,0,1,0⟩]) (size := 4) (fun _ => rfl) (by decide) c3 (by simp [maxLen])
  have g4 := C8 (f := fun x : Int => [Value.int .i64 x]) (l := [0]) (size := 1) (fun _ => rfl) (by decide) c4 (by simp [maxLen])
  exact ⟨g1,g2,g3.and (by simp [Edge.wf]),g4,by simp [kA],by simp [kA],by simp [kA],by simp [kA]⟩
 refine ld Aa (v := .agg #[.slice (some ⟨b1,0,none⟩) 1 1,.int .i64 1,.slice (some ⟨b2,0,none⟩) 1 1,.slice (some ⟨b3,0,none⟩) 1 1,.slice (some ⟨b4,0,none⟩) 1 1]) (Own.at_ (xs := [.slice (some ⟨b1,0,none⟩) 1 1,.int .i64 1,.slice (some ⟨b2,0,none⟩) 1 1,.slice (some ⟨b3,0,none⟩) 1 1,.slice (some ⟨b4,0,none⟩) 1 1]) (o := 0) m6 rfl) (by rfl) ?_
 refine ne (by decide) ?_
 refine nd fun q1 w7 e7 s7 k7 m7 => ?_
 have d1 := C8 (f := fun x : Int => [Value.int .u16 x]) (l := [1]) (size := 1) (fun _ => rfl) (by decide) (show Own w7 q1 65 [.int .u16 1] from m7) (by simp [maxLen])
 have hW1 : WordV 0 w7.heap.size w7 (.slice none 0 0) (.slice (some ⟨q1,0,none⟩) 1 1) kW1 :=
  ⟨⟨none,0,rfl,Nat.le_refl _,fun i x hx => by simp [kW1] at hx⟩,d1.and (by simp [My]),by simp [kW1],by simp [kW1]⟩
 have hcall := Pg (hB.chg k7 (Nat.le_refl _) k7.size) hW1 (by simp [kA]) (by decide)
 rw [AgB] at hcall
 refine cl Lo hcall ?_
 rintro _ w8 ⟨rfl,k8⟩
 have k68 := k7.trans k8
 refine ld Aa (v := .agg #[.slice (some ⟨b1,0,none⟩) 1 1,.int .i64 1,.slice (some ⟨b2,0,none⟩) 1 1,.slice (some ⟨b3,0,none⟩) 1 1,.slice (some ⟨b4,0,none⟩) 1 1]) (Own.at_ (xs := [.slice (some ⟨b1,0,none⟩) 1 1,.int .i64 1,.slice (some ⟨b2,0,none⟩) 1 1,.slice (some ⟨b3,0,none⟩) 1 1,.slice (some ⟨b4,0,none⟩) 1 1]) (o := 0) (k68.own m6 id) rfl) (by rfl) ?_
 refine ne (by decide) ?_
 refine nd fun q2 w9 e9 s9 k9 m9 => ?_
 refine ne (by decide) ?_
 refine nd fun q3 w10 e10 s10 k10 m10 => ?_
 have d2 := C8 (f := fun x : Int => [Value.int .u16 x]) (l := [1]) (size := 1) (fun _ => rfl) (by decide) (k10.own (show Own w9 q2 65 [.int .u16 1] from m9) id) (by simp [maxLen])
 have d3 := C8 (f := fun x : Int => [Value.int .u16 x]) (l := [1,0]) (size := 1) (fun _ => rfl) (by decide) (show Own w10 q3 65 [.int .u16 1,.int .u16 0] from m10) (by simp [maxLen])
 have hW2 : WordV 0 w10.heap.size w10 (.slice (some ⟨q2,0,none⟩) 1 1) (.slice (some ⟨q3,0,none⟩) 2 2) kW2 :=
  ⟨d2.and (by simp [My]),d3.and (by simp [My]),by simp [kW2],by simp [kW2]⟩
 have k610 := k68.trans (k9.trans k10)
 have hcall := Pg (hB.chg k610 (Nat.le_refl _) k610.size) hW2 (by simp [kA]) (by decide)
 rw [AgA] at hcall
 refine cl Lo hcall ?_
 rintro _ w11 ⟨rfl,k11⟩
 have k611 := k610.trans k11
 refine ld Aa (v := .agg #[.slice (some ⟨b1,0,none⟩) 1 1,.int .i64 1,.slice (some ⟨b2,0,none⟩) 1 1,.slice (some ⟨b3,0,none⟩) 1 1,.slice (some ⟨b4,0,none⟩) 1 1]) (Own.at_ (xs := [.slice (some ⟨b1,0,none⟩) 1 1,.int .i64 1,.slice (some ⟨b2,0,none⟩) 1 1,.slice (some ⟨b3,0,none⟩) 1 1,.slice (some ⟨b4,0,none⟩) 1 1]) (o := 0) (k611.own m6 id) rfl) (by rfl) ?_
 have hchk := Lk (hB.chg k611 (Nat.le_refl _) k611.size)
 rw [Vp] at hchk
 refine cl Jb hchk ?_
 rintro _ w12 ⟨rfl,k12⟩
 refine Dj rfl ?_
 refine Dj rfl ?_
 refine Dj rfl ?_
 exact ⟨rfl,k06.trans (k611.trans k12)⟩
theorem Yl : Af prog 6 = true := by kernel_rfl
end Go.Au
namespace Go.Au
open Go.Proofs.Tryz
open Go Go.RowKit
abbrev fI (x : Int) : List Value := [.int .i64 x]
abbrev fS (x : ByteArray) : List Value := [.string x]
abbrev fU (x : Int) : List Value := [.int .u16 x]
theorem Edge.arr_inj {x y : Edge} (h : #[Value.int .i64 x.frm,.int .i64 x.to,.int .u16 x.must,.int .u16 x.no] = #[Value.int .i64 y.frm,.int .i64 y.to,.int .u16 y.must,.int .u16 y.no]) : x = y := by
 cases x; cases y; simp at h; simp [h]
def Ty (t : TypeId) (cs : List Value) : Prop := (t = 3 → ∃ xs : List Int,cs = xs.flatMap fI) ∧ (t = 9 → ∃ xs : List ByteArray,cs = xs.flatMap fS) ∧ (t = 65 → ∃ xs : List Int,cs = xs.flatMap fU ∧ ∀ x ∈ xs,0 ≤ x ∧ x < 65536) ∧ (t = 67 → ∃ xs : List Edge,cs = xs.flatMap Edge.cells ∧ ∀ x ∈ xs,x.wf)
theorem H0 : Af prog 92 = true := by kernel_rfl
theorem Jy {w : World} {lo hi lo2 hi2 : Nat} {v u : Value} {xs ys : List Int} (h : RowE (fun _ cs x => cs = fI x) 1 lo hi w v xs) (h' : RowE (fun _ cs x => cs = fI x) 1 lo2 hi2 w u ys) (hl : xs.length < 4611686018427387904) :
 Calls prog 92 [v,u].toArray w (Bg fun r w' => r = .bool (decide (xs = ys)) ∧ Kp w w') := by
 obtain ⟨a,cap,rfl,hcap,hx⟩ := h
 obtain ⟨a2,cap2,rfl,hcap2,hx2⟩ := h'
 refine call Aa func92 rfl ntmps92 (by kernel_rfl) ?_
 refine sp (fun h1 => ?_) (fun h1 => ?_)
 · exact ⟨congrArg Value.bool (decide_eq_false (fun he => h1 (by rw [he]))).symm,Chg.refl _ _⟩
 have hlen : xs.length = ys.length := by omega
 refine loop Aa (σ := Nat) (fun i => [(0,.slice a xs.length cap),(1,.slice a2 ys.length cap2),(5,.int .i64 i)]) (fun i w' => Kp w w' ∧ i ≤ xs.length ∧ xs.take i = ys.take i) (fun i => xs.length - i) 0
  ⟨rfl,rfl,rfl,trivial⟩ ⟨Chg.refl _ _,by omega,by simp⟩ ?_
 rintro i e0 w1 ⟨hk,hi,ht⟩
 refine sp (fun h3 => ?_) (fun h3 => ?_)
 · have hi1 : i < xs.length := by omega
   have hi2 : i < ys.length := by omega
   obtain ⟨b,o,rfl,-,-,cs,hcs,hrd,rfl⟩ := hx i xs[i] (by simp)
   obtain ⟨b2,o2,rfl,-,-,cs2,hcs2,hrd2,rfl⟩ := hx2 i ys[i] (by simp)
   refine Ax Aa mixed 9 (by kernel_rfl) (fun _ => False) ?_
   conv => whnf
   refine ne ⟨by omega,h3⟩ ?_
   conv => whnf
   refine A7 Aa rfl rfl (fun W h _ => (hk.trans h).range hrd id) (by rfl) fun _ => ?_
   conv => whnf
   refine ne ⟨by omega,by omega⟩ ?_
   conv => whnf
   refine A7 Aa rfl rfl (fun W h _ => (hk.trans h).range hrd2 id) (by rfl) fun _ => ?_
   conv => whnf
   refine sp (fun h4 => ?_) (fun h4 => ?_)
   · conv => whnf
     intro W h _
     refine ⟨congrArg Value.bool (decide_eq_false (fun he => ?_)).symm,hk.trans h⟩
     have he : xs[i] = ys[i] := by simp [he]
     exact (fun he => h4 (by rw [he])) he
   · conv => whnf
     intro W h _
     have he : xs[i] = ys[i] := Classical.not_not.1 h4
     refine aw (by omega) (by omega) ?_
     refine again (i + 1) ⟨rfl,rfl,rfl,trivial⟩ ⟨hk.trans h,by omega,?_⟩ (by omega)
     rw [List.take_succ_eq_append_getElem hi1,List.take_succ_eq_append_getElem hi2,ht,he]
 · refine ⟨congrArg Value.bool (decide_eq_true ?_).symm,hk⟩
   rw [List.take_of_length_le (by omega),List.take_of_length_le (by omega)] at ht
   exact ht
theorem Fr : Af prog 25 = true := by kernel_rfl
abbrev Dv := Lent 3 fI [.int .i64 (-771),.int .i64 (-772)] 2
theorem Hv {w : World} {lo hi : Nat} {v : Value} {xs : List Int} (h : RowE (fun _ cs x => cs = fI x) 1 lo hi w v xs) (hl : xs.length * 8 ≤ 140737488351232) :
 Calls prog 25 [v].toArray w (Bg fun r w' => Kp w w' ∧ Dv w.heap.size w'.heap.size w' r xs) := by
 have hrow := h
 obtain ⟨a,cap,rfl,hcap,hx⟩ := h
 refine call Aa func25 rfl ntmps25 (by kernel_rfl) ?_
 refine aw (by omega) (by omega) ?_
 refine ms Aa rfl rfl rfl rfl rfl rfl (by omega) (by omega) (by show (8 : Int) * _ ≤ _; omega) (by omega) ?_
 intro b w1 e1 s1 k1 m1
 have hn2 : ((xs.length : Int) + 2).toNat = xs.length + 2 := by omega
 rw [hn2]
 have own0 : w1.ownsRow w.heap.size 3 1 (.slice (some ⟨b,0,none⟩) 0 (xs.length + 2)) 0 [] := ⟨rfl,.inr ⟨b,xs.length + 2,_,rfl,by omega,m1,by omega,by simp only [maxLen]; omega,by rw [hn2,List.size_toArray,I0]; rfl,by simp⟩⟩
 refine apR Aa rfl rfl rfl rfl rfl rfl rfl (by decide) own0 (fun _ => rfl) (hrow.chg k1 (fun _ _ _ h => h) (fun _ _ h => h)) (fun _ => rfl) (by omega) ?_
 intro w2 s2 o1 c1
 have k2 : Kp w w2 := k1.newS c1 fun i hi => by omega
 refine ne (by decide) ?_
 refine nd fun q w3 e3 s3 k3 m3 => ?_
 have o1' := Ab o1 k3 fun _ _ h => h
 refine apR (xs := [(-771 : Int),-772]) (f := fI) Aa rfl rfl rfl rfl rfl rfl rfl (by decide) o1' (fun _ => rfl) (C8 (f := fI) (l := [(-771 : Int),-772]) (fun _ => rfl) (by decide) m3 (by simp [maxLen])) (fun _ => rfl) (by simp) ?_
 intro w4 s4 o2 c2
 have k4 : Kp w w4 := (k2.trans k3).newS c2 fun i hi => by omega
 have o2 : w4.ownsRow w.heap.size 3 1 (.slice (some ⟨b,0,none⟩) (0 + xs.length + 2) (xs.length + 2)) (0 + xs.length + 2) (xs.flatMap fI ++ [.int .i64 (-771),.int .i64 (-772)]) := o2
 rw [Nat.zero_add] at o2
 obtain ⟨o3,hlo⟩ := Fl o2
 refine ne ⟨by omega,by omega,by omega⟩ ?_
 exact ⟨k4,b,rfl,hlo,Am o3,o3⟩
theorem E9 : Af prog 40 = true := by kernel_rfl
theorem Gq {w : World} {lo hi lo2 hi2 : Nat} {v u : Value} {xs : List Int} (h : Dv lo hi w v xs) (h' : RowE (fun _ cs x => cs = fI x) 1 lo2 hi2 w u xs) (hl : xs.length < 4611686018427387904) :
 Calls prog 40 [v,u].toArray w (Bg fun r w' => r = .bool true ∧ Kp w w') := by
 have hrow := h.row (size := 1) (fun _ => rfl)
 obtain ⟨b,rfl,hlo,hb,ho⟩ := h
 have r1 : w.rangeAt b (0 + ((xs.length : Int)).toNat * 1) [.int .i64 (-771)] := by
  have := Fw (size := 1) ho (fun _ => rfl) 0 (ms := [.int .i64 (-771)]) rfl
  rwa [show xs.length + 0 = ((xs.length : Int)).toNat by omega] at this
 have r2 : w.rangeAt b (0 + ((xs.length : Int) + 1).toNat * 1) [.int .i64 (-772)] := by
  have := Fw (size := 1) ho (fun _ => rfl) 1 (ms := [.int .i64 (-772)]) rfl
  rwa [show xs.length + 1 = ((xs.length : Int) + 1).toNat by omega] at this
 refine call Aa func40 rfl ntmps40 (by kernel_rfl) ?_
 refine aw (by omega) (by omega) ?_
 refine Bs (by omega) ?_
 refine aw (by omega) (by omega) ?_
 refine ne ⟨by omega,by omega,by omega⟩ ?_
 refine ne ⟨by omega,by omega⟩ ?_
 refine ld Aa r1 (by rfl) ?_
 refine Dj rfl ?_
 refine aw (by omega) (by omega) ?_
 refine ne ⟨by omega,by omega⟩ ?_
 refine ld Aa r2 (by rfl) ?_
 refine Dj rfl ?_
 have hs := Jy hrow h' hl
 rw [decide_eq_true rfl] at hs
 refine cl H0 hs ?_
 rintro _ w1 ⟨rfl,k1⟩
 exact ⟨rfl,k1⟩
theorem Fa : Af prog 45 = true := by kernel_rfl
theorem Gs {w : World} {lo hi n : Nat} {v : Value} (h : Well 3 1 lo hi w v n) :
 Calls prog 45 [v].toArray w (Bg fun _ w' => ∃ b cs,v.ownBlock = some b ∧ Own w b 3 cs ∧ Chg (fun k => k = b) w w' ∧ w'.heap.size = w.heap.size ∧ Shp Ty w w') := by
 obtain ⟨b,cap,cur,rfl,h1,h2,h3,h4,h5,h6⟩ := h
 refine call Aa func45 rfl ntmps45 (by kernel_rfl) ?_
 refine ne ⟨by omega,by omega,by omega⟩ ?_
 refine loop Aa (σ := Nat) (fun i => [(2,.slice (some ⟨b,0,none⟩) cap cap),(3,.int .i64 i)])
  (fun i w' => ∃ cur',Chg (fun k => k = b) w w' ∧ w'.heap.size = w.heap.size ∧ i ≤ cap ∧ Own w' b 3 cur' ∧ cur'.length = cap * 1 ∧ cur'.take (i * 1) = (List.replicate i ((-5) : Int)).flatMap fI) (fun i => cap - i) 0
  ⟨rfl,rfl,trivial⟩ ⟨cur,Chg.refl _ _,rfl,by omega,h5,h6,by simp⟩ ?_
 rintro i e0 w1 ⟨cur',hk,hs,hi,ho,hl,ht⟩
 refine sp (fun h7 => ?_) (fun h7 => ?_)
 · refine ne ⟨by omega,h7⟩ ?_
   have hle : i * 1 + (fI ((-5) : Int)).length ≤ cur'.length := by rw [hl]; show i * 1 + 1 ≤ _; omega
   refine st Aa (o := 0 + ((i : Int)).toNat * 1) ho rfl (by rw [Nat.zero_add,Int.toNat_natCast]; exact hle) rfl ?_
   intro w2 s2 k2 m2
   rw [Nat.zero_add,Int.toNat_natCast] at m2
   refine aw (by omega) (by omega) ?_
   refine again (i + 1) ⟨rfl,rfl,trivial⟩ ⟨Gk cur' (i * 1) (fI ((-5) : Int)),hk.trans k2,by omega,by omega,m2,by rw [Gj]; exact hl,?_⟩ (by omega)
   rw [show (i + 1) * 1 = i * 1 + (fI ((-5) : Int)).length by show _ = i * 1 + 1; omega,Le _ _ _ hle,ht,List.replicate_succ',List.flatMap_append]
   simp
 · have hic : i = cap := by omega
   subst hic
   have hall : cur' = (List.replicate i ((-5) : Int)).flatMap fI := by rw [← ht,List.take_of_length_le (by omega)]
   refine ⟨b,cur,rfl,h5,hk,hs,Ri hk h5 ho (by omega) ?_⟩
   subst hall
   exact ⟨by exact fun _ => ⟨_,rfl⟩,by simp,by simp,by simp⟩
theorem Jq : Af prog 91 = true := by kernel_rfl
theorem Mh {w : World} {lo hi lo2 hi2 : Nat} {v u : Value} {xs ys : List ByteArray} (h : RowE (fun _ cs x => cs = fS x) 1 lo hi w v xs) (h' : RowE (fun _ cs x => cs = fS x) 1 lo2 hi2 w u ys) (hl : xs.length < 4611686018427387904) :
 Calls prog 91 [v,u].toArray w (Bg fun r w' => r = .bool (decide (xs = ys)) ∧ Kp w w') := by
 obtain ⟨a,cap,rfl,hcap,hx⟩ := h
 obtain ⟨a2,cap2,rfl,hcap2,hx2⟩ := h'
 refine call Aa func91 rfl ntmps91 (by kernel_rfl) ?_
 refine sp (fun h1 => ?_) (fun h1 => ?_)
 · exact ⟨congrArg Value.bool (decide_eq_false (fun he => h1 (by rw [he]))).symm,Chg.refl _ _⟩
 have hlen : xs.length = ys.length := by omega
 refine loop Aa (σ := Nat) (fun i => [(0,.slice a xs.length cap),(1,.slice a2 ys.length cap2),(5,.int .i64 i)]) (fun i w' => Kp w w' ∧ i ≤ xs.length ∧ xs.take i = ys.take i) (fun i => xs.length - i) 0
  ⟨rfl,rfl,rfl,trivial⟩ ⟨Chg.refl _ _,by omega,by simp⟩ ?_
 rintro i e0 w1 ⟨hk,hi,ht⟩
 refine sp (fun h3 => ?_) (fun h3 => ?_)
 · have hi1 : i < xs.length := by omega
   have hi2 : i < ys.length := by omega
   obtain ⟨b,o,rfl,-,-,cs,hcs,hrd,rfl⟩ := hx i xs[i] (by simp)
   obtain ⟨b2,o2,rfl,-,-,cs2,hcs2,hrd2,rfl⟩ := hx2 i ys[i] (by simp)
   refine Ax Aa mixed 9 (by kernel_rfl) (fun _ => False) ?_
   conv => whnf
   refine ne ⟨by omega,h3⟩ ?_
   conv => whnf
   refine A7 Aa rfl rfl (fun W h _ => (hk.trans h).range hrd id) (by rfl) fun _ => ?_
   conv => whnf
   refine ne ⟨by omega,by omega⟩ ?_
   conv => whnf
   refine A7 Aa rfl rfl (fun W h _ => (hk.trans h).range hrd2 id) (by rfl) fun _ => ?_
   conv => whnf
   refine sp (fun h4 => ?_) (fun h4 => ?_)
   · conv => whnf
     intro W h _
     refine ⟨congrArg Value.bool (decide_eq_false (fun he => ?_)).symm,hk.trans h⟩
     have he : xs[i] = ys[i] := by simp [he]
     exact (fun he => h4 (by rw [he])) he
   · conv => whnf
     intro W h _
     have he : xs[i] = ys[i] := Classical.not_not.1 h4
     refine aw (by omega) (by omega) ?_
     refine again (i + 1) ⟨rfl,rfl,rfl,trivial⟩ ⟨hk.trans h,by omega,?_⟩ (by omega)
     rw [List.take_succ_eq_append_getElem hi1,List.take_succ_eq_append_getElem hi2,ht,he]
 · refine ⟨congrArg Value.bool (decide_eq_true ?_).symm,hk⟩
   rw [List.take_of_length_le (by omega),List.take_of_length_le (by omega)] at ht
   exact ht
theorem Jt : Af prog 24 = true := by kernel_rfl
abbrev Ga := Lent 9 fS [.string ⟨#[116,104,101,32,111,119,110,101,114,39,115]⟩,.string ⟨#[116,104,101,32,111,119,110,101,114,39,115]⟩] 2
theorem Mp {w : World} {lo hi : Nat} {v : Value} {xs : List ByteArray} (h : RowE (fun _ cs x => cs = fS x) 1 lo hi w v xs) (hl : xs.length * 16 ≤ 140737488351232) :
 Calls prog 24 [v].toArray w (Bg fun r w' => Kp w w' ∧ Ga w.heap.size w'.heap.size w' r xs) := by
 have hrow := h
 obtain ⟨a,cap,rfl,hcap,hx⟩ := h
 refine call Aa func24 rfl ntmps24 (by kernel_rfl) ?_
 refine aw (by omega) (by omega) ?_
 refine ms Aa rfl rfl rfl rfl rfl rfl (by omega) (by omega) (by show (16 : Int) * _ ≤ _; omega) (by omega) ?_
 intro b w1 e1 s1 k1 m1
 have hn2 : ((xs.length : Int) + 2).toNat = xs.length + 2 := by omega
 rw [hn2]
 have own0 : w1.ownsRow w.heap.size 9 1 (.slice (some ⟨b,0,none⟩) 0 (xs.length + 2)) 0 [] := ⟨rfl,.inr ⟨b,xs.length + 2,_,rfl,by omega,m1,by omega,by simp only [maxLen]; omega,by rw [hn2,List.size_toArray,I0]; rfl,by simp⟩⟩
 refine apR Aa rfl rfl rfl rfl rfl rfl rfl (by decide) own0 (fun _ => rfl) (hrow.chg k1 (fun _ _ _ h => h) (fun _ _ h => h)) (fun _ => rfl) (by omega) ?_
 intro w2 s2 o1 c1
 have k2 : Kp w w2 := k1.newS c1 fun i hi => by omega
 refine ne (by decide) ?_
 refine nd fun q w3 e3 s3 k3 m3 => ?_
 have o1' := Ab o1 k3 fun _ _ h => h
 refine apR (xs := [(⟨#[116,104,101,32,111,119,110,101,114,39,115]⟩ : ByteArray),⟨#[116,104,101,32,111,119,110,101,114,39,115]⟩]) (f := fS) Aa rfl rfl rfl rfl rfl rfl rfl (by decide) o1' (fun _ => rfl) (C8 (f := fS) (l := [(⟨#[116,104,101,32,111,119,110,101,114,39,115]⟩ : ByteArray),⟨#[116,104,101,32,111,119,110,101,114,39,115]⟩]) (fun _ => rfl) (by decide) m3 (by simp [maxLen])) (fun _ => rfl) (by simp) ?_
 intro w4 s4 o2 c2
 have k4 : Kp w w4 := (k2.trans k3).newS c2 fun i hi => by omega
 have o2 : w4.ownsRow w.heap.size 9 1 (.slice (some ⟨b,0,none⟩) (0 + xs.length + 2) (xs.length + 2)) (0 + xs.length + 2) (xs.flatMap fS ++ [.string ⟨#[116,104,101,32,111,119,110,101,114,39,115]⟩,.string ⟨#[116,104,101,32,111,119,110,101,114,39,115]⟩]) := o2
 rw [Nat.zero_add] at o2
 obtain ⟨o3,hlo⟩ := Fl o2
 refine ne ⟨by omega,by omega,by omega⟩ ?_
 exact ⟨k4,b,rfl,hlo,Am o3,o3⟩
theorem Io : Af prog 39 = true := by kernel_rfl
theorem Km {w : World} {lo hi lo2 hi2 : Nat} {v u : Value} {xs : List ByteArray} (h : Ga lo hi w v xs) (h' : RowE (fun _ cs x => cs = fS x) 1 lo2 hi2 w u xs) (hl : xs.length < 4611686018427387904) :
 Calls prog 39 [v,u].toArray w (Bg fun r w' => r = .bool true ∧ Kp w w') := by
 have hrow := h.row (size := 1) (fun _ => rfl)
 obtain ⟨b,rfl,hlo,hb,ho⟩ := h
 have r1 : w.rangeAt b (0 + ((xs.length : Int)).toNat * 1) [.string ⟨#[116,104,101,32,111,119,110,101,114,39,115]⟩] := by
  have := Fw (size := 1) ho (fun _ => rfl) 0 (ms := [.string ⟨#[116,104,101,32,111,119,110,101,114,39,115]⟩]) rfl
  rwa [show xs.length + 0 = ((xs.length : Int)).toNat by omega] at this
 have r2 : w.rangeAt b (0 + ((xs.length : Int) + 1).toNat * 1) [.string ⟨#[116,104,101,32,111,119,110,101,114,39,115]⟩] := by
  have := Fw (size := 1) ho (fun _ => rfl) 1 (ms := [.string ⟨#[116,104,101,32,111,119,110,101,114,39,115]⟩]) rfl
  rwa [show xs.length + 1 = ((xs.length : Int) + 1).toNat by omega] at this
 refine call Aa func39 rfl ntmps39 (by kernel_rfl) ?_
 refine aw (by omega) (by omega) ?_
 refine Bs (by omega) ?_
 refine aw (by omega) (by omega) ?_
 refine ne ⟨by omega,by omega,by omega⟩ ?_
 refine ne ⟨by omega,by omega⟩ ?_
 refine ld Aa r1 (by rfl) ?_
 refine Dj rfl ?_
 refine aw (by omega) (by omega) ?_
 refine ne ⟨by omega,by omega⟩ ?_
 refine ld Aa r2 (by rfl) ?_
 refine Dj rfl ?_
 have hs := Mh hrow h' hl
 rw [decide_eq_true rfl] at hs
 refine cl Jq hs ?_
 rintro _ w1 ⟨rfl,k1⟩
 exact ⟨rfl,k1⟩
theorem Ir : Af prog 44 = true := by kernel_rfl
theorem Kr {w : World} {lo hi n : Nat} {v : Value} (h : Well 9 1 lo hi w v n) :
 Calls prog 44 [v].toArray w (Bg fun _ w' => ∃ b cs,v.ownBlock = some b ∧ Own w b 9 cs ∧ Chg (fun k => k = b) w w' ∧ w'.heap.size = w.heap.size ∧ Shp Ty w w') := by
 obtain ⟨b,cap,cur,rfl,h1,h2,h3,h4,h5,h6⟩ := h
 refine call Aa func44 rfl ntmps44 (by kernel_rfl) ?_
 refine ne ⟨by omega,by omega,by omega⟩ ?_
 refine loop Aa (σ := Nat) (fun i => [(2,.slice (some ⟨b,0,none⟩) cap cap),(3,.int .i64 i)])
  (fun i w' => ∃ cur',Chg (fun k => k = b) w w' ∧ w'.heap.size = w.heap.size ∧ i ≤ cap ∧ Own w' b 9 cur' ∧ cur'.length = cap * 1 ∧ cur'.take (i * 1) = (List.replicate i (⟨#[115,112,111,105,108,116]⟩ : ByteArray)).flatMap fS) (fun i => cap - i) 0
  ⟨rfl,rfl,trivial⟩ ⟨cur,Chg.refl _ _,rfl,by omega,h5,h6,by simp⟩ ?_
 rintro i e0 w1 ⟨cur',hk,hs,hi,ho,hl,ht⟩
 refine sp (fun h7 => ?_) (fun h7 => ?_)
 · refine ne ⟨by omega,h7⟩ ?_
   have hle : i * 1 + (fS (⟨#[115,112,111,105,108,116]⟩ : ByteArray)).length ≤ cur'.length := by rw [hl]; show i * 1 + 1 ≤ _; omega
   refine st Aa (o := 0 + ((i : Int)).toNat * 1) ho rfl (by rw [Nat.zero_add,Int.toNat_natCast]; exact hle) rfl ?_
   intro w2 s2 k2 m2
   rw [Nat.zero_add,Int.toNat_natCast] at m2
   refine aw (by omega) (by omega) ?_
   refine again (i + 1) ⟨rfl,rfl,trivial⟩ ⟨Gk cur' (i * 1) (fS (⟨#[115,112,111,105,108,116]⟩ : ByteArray)),hk.trans k2,by omega,by omega,m2,by rw [Gj]; exact hl,?_⟩ (by omega)
   rw [show (i + 1) * 1 = i * 1 + (fS (⟨#[115,112,111,105,108,116]⟩ : ByteArray)).length by show _ = i * 1 + 1; omega,Le _ _ _ hle,ht,List.replicate_succ',List.flatMap_append]
   simp
 · have hic : i = cap := by omega
   subst hic
   have hall : cur' = (List.replicate i (⟨#[115,112,111,105,108,116]⟩ : ByteArray)).flatMap fS := by rw [← ht,List.take_of_length_le (by omega)]
   refine ⟨b,cur,rfl,h5,hk,hs,Ri hk h5 ho (by omega) ?_⟩
   subst hall
   exact ⟨by simp,by exact fun _ => ⟨_,rfl⟩,by simp,by simp⟩
theorem Js : Af prog 93 = true := by kernel_rfl
theorem Mi {w : World} {lo hi lo2 hi2 : Nat} {v u : Value} {xs ys : List Edge} (h : RowE (fun _ cs x => cs = Edge.cells x) 4 lo hi w v xs) (h' : RowE (fun _ cs x => cs = Edge.cells x) 4 lo2 hi2 w u ys) (hl : xs.length < 4611686018427387904) :
 Calls prog 93 [v,u].toArray w (Bg fun r w' => r = .bool (decide (xs = ys)) ∧ Kp w w') := by
 obtain ⟨a,cap,rfl,hcap,hx⟩ := h
 obtain ⟨a2,cap2,rfl,hcap2,hx2⟩ := h'
 refine call Aa func93 rfl ntmps93 (by kernel_rfl) ?_
 refine sp (fun h1 => ?_) (fun h1 => ?_)
 · exact ⟨congrArg Value.bool (decide_eq_false (fun he => h1 (by rw [he]))).symm,Chg.refl _ _⟩
 have hlen : xs.length = ys.length := by omega
 refine loop Aa (σ := Nat) (fun i => [(0,.slice a xs.length cap),(1,.slice a2 ys.length cap2),(5,.int .i64 i)]) (fun i w' => Kp w w' ∧ i ≤ xs.length ∧ xs.take i = ys.take i) (fun i => xs.length - i) 0
  ⟨rfl,rfl,rfl,trivial⟩ ⟨Chg.refl _ _,by omega,by simp⟩ ?_
 rintro i e0 w1 ⟨hk,hi,ht⟩
 refine sp (fun h3 => ?_) (fun h3 => ?_)
 · have hi1 : i < xs.length := by omega
   have hi2 : i < ys.length := by omega
   obtain ⟨b,o,rfl,-,-,cs,hcs,hrd,rfl⟩ := hx i xs[i] (by simp)
   obtain ⟨b2,o2,rfl,-,-,cs2,hcs2,hrd2,rfl⟩ := hx2 i ys[i] (by simp)
   refine Ax Aa mixed 9 (by kernel_rfl) (fun _ => False) ?_
   conv => whnf
   refine ne ⟨by omega,h3⟩ ?_
   conv => whnf
   refine A7 (v := xs[i].val) Aa rfl rfl (fun W h _ => (hk.trans h).range hrd id) (by rfl) fun _ => ?_
   conv => whnf
   refine ne ⟨by omega,by omega⟩ ?_
   conv => whnf
   refine A7 (v := ys[i].val) Aa rfl rfl (fun W h _ => (hk.trans h).range hrd2 id) (by rfl) fun _ => ?_
   conv => whnf
   refine ne ⟨by kernel_rfl,by kernel_rfl⟩ ?_
   conv => whnf
   refine sp (fun h4 => ?_) (fun h4 => ?_)
   · conv => whnf
     intro W h _
     refine ⟨congrArg Value.bool (decide_eq_false (fun he => ?_)).symm,hk.trans h⟩
     have he : xs[i] = ys[i] := by simp [he]
     exact (fun he => h4 (by rw [he])) he
   · conv => whnf
     intro W h _
     have he : xs[i] = ys[i] := Edge.arr_inj (Classical.not_not.1 h4)
     refine aw (by omega) (by omega) ?_
     refine again (i + 1) ⟨rfl,rfl,rfl,trivial⟩ ⟨hk.trans h,by omega,?_⟩ (by omega)
     rw [List.take_succ_eq_append_getElem hi1,List.take_succ_eq_append_getElem hi2,ht,he]
 · refine ⟨congrArg Value.bool (decide_eq_true ?_).symm,hk⟩
   rw [List.take_of_length_le (by omega),List.take_of_length_le (by omega)] at ht
   exact ht
theorem Ju : Af prog 26 = true := by kernel_rfl
abbrev Gb := Lent 67 Edge.cells [.int .i64 (-7),.int .i64 0,.int .u16 0,.int .u16 0,.int .i64 (-8),.int .i64 0,.int .u16 0,.int .u16 0] 2
theorem Mq {w : World} {lo hi : Nat} {v : Value} {xs : List Edge} (h : RowE (fun _ cs x => cs = Edge.cells x) 4 lo hi w v xs) (hl : xs.length * 24 ≤ 140737488351232) :
 Calls prog 26 [v].toArray w (Bg fun r w' => Kp w w' ∧ Gb w.heap.size w'.heap.size w' r xs) := by
 have hrow := h
 obtain ⟨a,cap,rfl,hcap,hx⟩ := h
 refine call Aa func26 rfl ntmps26 (by kernel_rfl) ?_
 refine aw (by omega) (by omega) ?_
 refine ms Aa rfl rfl rfl rfl rfl rfl (by omega) (by omega) (by show (24 : Int) * _ ≤ _; omega) (by omega) ?_
 intro b w1 e1 s1 k1 m1
 have hn2 : ((xs.length : Int) + 2).toNat = xs.length + 2 := by omega
 rw [hn2]
 have own0 : w1.ownsRow w.heap.size 67 4 (.slice (some ⟨b,0,none⟩) 0 (xs.length + 2)) 0 [] := ⟨rfl,.inr ⟨b,xs.length + 2,_,rfl,by omega,m1,by omega,by simp only [maxLen]; omega,by rw [hn2,List.size_toArray,I0]; rfl,by simp⟩⟩
 refine apR Aa rfl rfl rfl rfl rfl rfl rfl (by decide) own0 (fun _ => rfl) (hrow.chg k1 (fun _ _ _ h => h) (fun _ _ h => h)) (fun _ => rfl) (by omega) ?_
 intro w2 s2 o1 c1
 have k2 : Kp w w2 := k1.newS c1 fun i hi => by omega
 refine ne (by decide) ?_
 refine nd fun q w3 e3 s3 k3 m3 => ?_
 have o1' := Ab o1 k3 fun _ _ h => h
 refine apR (xs := [(⟨-7,0,0,0⟩ : Edge),⟨-8,0,0,0⟩]) (f := Edge.cells) Aa rfl rfl rfl rfl rfl rfl rfl (by decide) o1' (fun _ => rfl) (C8 (f := Edge.cells) (l := [(⟨-7,0,0,0⟩ : Edge),⟨-8,0,0,0⟩]) (fun _ => rfl) (by decide) m3 (by simp [maxLen])) (fun _ => rfl) (by simp) ?_
 intro w4 s4 o2 c2
 have k4 : Kp w w4 := (k2.trans k3).newS c2 fun i hi => by omega
 have o2 : w4.ownsRow w.heap.size 67 4 (.slice (some ⟨b,0,none⟩) (0 + xs.length + 2) (xs.length + 2)) (0 + xs.length + 2) (xs.flatMap Edge.cells ++ [.int .i64 (-7),.int .i64 0,.int .u16 0,.int .u16 0,.int .i64 (-8),.int .i64 0,.int .u16 0,.int .u16 0]) := o2
 rw [Nat.zero_add] at o2
 obtain ⟨o3,hlo⟩ := Fl o2
 refine ne ⟨by omega,by omega,by omega⟩ ?_
 exact ⟨k4,b,rfl,hlo,Am o3,o3⟩
theorem Ip : Af prog 41 = true := by kernel_rfl
theorem Kn {w : World} {lo hi lo2 hi2 : Nat} {v u : Value} {xs : List Edge} (h : Gb lo hi w v xs) (h' : RowE (fun _ cs x => cs = Edge.cells x) 4 lo2 hi2 w u xs) (hl : xs.length < 4611686018427387904) :
 Calls prog 41 [v,u].toArray w (Bg fun r w' => r = .bool true ∧ Kp w w') := by
 have hrow := h.row (size := 4) (fun _ => rfl)
 obtain ⟨b,rfl,hlo,hb,ho⟩ := h
 have r1 : w.rangeAt b (0 + ((xs.length : Int)).toNat * 4) [.int .i64 (-7),.int .i64 0,.int .u16 0,.int .u16 0] := by
  have := Fw (size := 4) ho (fun _ => rfl) 0 (ms := [.int .i64 (-7),.int .i64 0,.int .u16 0,.int .u16 0]) rfl
  rwa [show xs.length + 0 = ((xs.length : Int)).toNat by omega] at this
 have r2 : w.rangeAt b (0 + ((xs.length : Int) + 1).toNat * 4) [.int .i64 (-8),.int .i64 0,.int .u16 0,.int .u16 0] := by
  have := Fw (size := 4) ho (fun _ => rfl) 1 (ms := [.int .i64 (-8),.int .i64 0,.int .u16 0,.int .u16 0]) rfl
  rwa [show xs.length + 1 = ((xs.length : Int) + 1).toNat by omega] at this
 refine call Aa func41 rfl ntmps41 (by kernel_rfl) ?_
 refine aw (by omega) (by omega) ?_
 refine Bs (by omega) ?_
 refine aw (by omega) (by omega) ?_
 refine ne ⟨by omega,by omega,by omega⟩ ?_
 refine ne ⟨by omega,by omega⟩ ?_
 refine ld (v := .agg #[.int .i64 (-7),.int .i64 0,.int .u16 0,.int .u16 0]) Aa r1 (by rfl) ?_
 refine ne ⟨by kernel_rfl,by kernel_rfl⟩ ?_
 refine Dj rfl ?_
 refine aw (by omega) (by omega) ?_
 refine ne ⟨by omega,by omega⟩ ?_
 refine ld (v := .agg #[.int .i64 (-8),.int .i64 0,.int .u16 0,.int .u16 0]) Aa r2 (by rfl) ?_
 refine ne ⟨by kernel_rfl,by kernel_rfl⟩ ?_
 refine Dj rfl ?_
 have hs := Mi hrow h' hl
 rw [decide_eq_true rfl] at hs
 refine cl Js hs ?_
 rintro _ w1 ⟨rfl,k1⟩
 exact ⟨rfl,k1⟩
theorem Is : Af prog 46 = true := by kernel_rfl
theorem Ks {w : World} {lo hi n : Nat} {v : Value} (h : Well 67 4 lo hi w v n) :
 Calls prog 46 [v].toArray w (Bg fun _ w' => ∃ b cs,v.ownBlock = some b ∧ Own w b 67 cs ∧ Chg (fun k => k = b) w w' ∧ w'.heap.size = w.heap.size ∧ Shp Ty w w') := by
 obtain ⟨b,cap,cur,rfl,h1,h2,h3,h4,h5,h6⟩ := h
 refine call Aa func46 rfl ntmps46 (by kernel_rfl) ?_
 refine ne ⟨by omega,by omega,by omega⟩ ?_
 refine loop Aa (σ := Nat) (fun i => [(2,.slice (some ⟨b,0,none⟩) cap cap),(3,.int .i64 i)])
  (fun i w' => ∃ cur',Chg (fun k => k = b) w w' ∧ w'.heap.size = w.heap.size ∧ i ≤ cap ∧ Own w' b 67 cur' ∧ cur'.length = cap * 4 ∧ cur'.take (i * 4) = (List.replicate i (⟨-5,0,0,0⟩ : Edge)).flatMap Edge.cells) (fun i => cap - i) 0
  ⟨rfl,rfl,trivial⟩ ⟨cur,Chg.refl _ _,rfl,by omega,h5,h6,by simp⟩ ?_
 rintro i e0 w1 ⟨cur',hk,hs,hi,ho,hl,ht⟩
 refine sp (fun h7 => ?_) (fun h7 => ?_)
 · refine ne ⟨by omega,h7⟩ ?_
   have hle : i * 4 + (Edge.cells (⟨-5,0,0,0⟩ : Edge)).length ≤ cur'.length := by rw [hl]; show i * 4 + 4 ≤ _; omega
   refine st Aa (o := 0 + ((i : Int)).toNat * 4) ho rfl (by rw [Nat.zero_add,Int.toNat_natCast]; exact hle) rfl ?_
   intro w2 s2 k2 m2
   rw [Nat.zero_add,Int.toNat_natCast] at m2
   refine aw (by omega) (by omega) ?_
   refine again (i + 1) ⟨rfl,rfl,trivial⟩ ⟨Gk cur' (i * 4) (Edge.cells (⟨-5,0,0,0⟩ : Edge)),hk.trans k2,by omega,by omega,m2,by rw [Gj]; exact hl,?_⟩ (by omega)
   rw [show (i + 1) * 4 = i * 4 + (Edge.cells (⟨-5,0,0,0⟩ : Edge)).length by show _ = i * 4 + 4; omega,Le _ _ _ hle,ht,List.replicate_succ',List.flatMap_append]
   simp
 · have hic : i = cap := by omega
   subst hic
   have hall : cur' = (List.replicate i (⟨-5,0,0,0⟩ : Edge)).flatMap Edge.cells := by rw [← ht,List.take_of_length_le (by omega)]
   refine ⟨b,cur,rfl,h5,hk,hs,Ri hk h5 ho (by omega) ?_⟩
   subst hall
   exact ⟨by simp,by simp,by simp,by exact fun _ => ⟨_,rfl,by simp [Edge.wf]⟩⟩
abbrev IntRowsB (lo hi : Nat) := RowE (fun w cs (xs : List Int) => ∃ u,cs = [u] ∧ Ef lo hi w u xs ∧ xs.length * 8 ≤ 140737488351232) 1 lo hi
theorem IntRowsB.rows {w : World} {lo hi : Nat} {v : Value} {xss : List (List Int)} (h : IntRowsB lo hi w v xss) : H6 lo hi w v xss :=
 h.mono (fun _ xs ⟨u,h1,h2,h3⟩ => ⟨u,h1,h2,by omega⟩) (Nat.le_refl _) (Nat.le_refl _)
theorem IntRowsB.chg {S : Nat → Prop} {w w' : World} {lo hi : Nat} {v : Value} {xss : List (List Int)} (h : IntRowsB lo hi w v xss) (hc : Chg S w w') (hs : ∀ k,lo ≤ k → k < hi → ¬ S k) : IntRowsB lo hi w' v xss :=
 RowE.chg h hc hs fun _ _ ⟨u,h1,h2,h3⟩ => ⟨u,h1,h2.chg hc hs (fun _ _ h => h),h3⟩
abbrev m77 (b : Nat) : Value := .slice (some ⟨b,0,none⟩) 1 1
def LentRows (lo hi : Nat) (w : World) (v : Value) (xss : List (List Int)) : Prop :=
 ∃ (b : Nat) (vs : List Value) (b77 : Nat),v = .slice (some ⟨b,0,none⟩) xss.length (xss.length + 1) ∧ lo ≤ b ∧ b < hi ∧ Own w b 23 (vs ++ [m77 b77]) ∧ lo ≤ b77 ∧ b77 < hi ∧ Own w b77 3 [.int .i64 (-77)] ∧ vs.length = xss.length ∧ ∀ (i : Nat) (x : List Int),xss[i]? = some x → ∃ u : Value,vs[i]? = some u ∧ Dv lo hi w u x ∧ x.length * 8 ≤ 140737488351232
theorem LentRows.chg {S : Nat → Prop} {w w' : World} {lo hi : Nat} {v : Value} {xss : List (List Int)} (h : LentRows lo hi w v xss) (hc : Chg S w w') (hs : ∀ k,lo ≤ k → k < hi → ¬ S k) : LentRows lo hi w' v xss := by
 obtain ⟨b,vs,b77,hv,h1,h2,h3,h4,h5,h6,h7,h8⟩ := h
 exact ⟨b,vs,b77,hv,h1,h2,hc.own h3 (hs b h1 h2),h4,h5,hc.own h6 (hs b77 h4 h5),h7,fun i x hx => by
  obtain ⟨u,g1,g2,g3⟩ := h8 i x hx
  exact ⟨u,g1,g2.chg hc hs,g3⟩⟩
theorem LentRows.mono {w : World} {lo hi lo' hi' : Nat} {v : Value} {xss : List (List Int)} (h : LentRows lo hi w v xss) (g1 : lo' ≤ lo) (g2 : hi ≤ hi') : LentRows lo' hi' w v xss := by
 obtain ⟨b,vs,b77,hv,h1,h2,h3,h4,h5,h6,h7,h8⟩ := h
 exact ⟨b,vs,b77,hv,by omega,by omega,h3,by omega,by omega,h6,h7,fun i x hx => by
  obtain ⟨u,k1,k2,k3⟩ := h8 i x hx
  exact ⟨u,k1,k2.mono g1 g2,k3⟩⟩
theorem Ih {w : World} {b : Nat} {t : TypeId} {cs : List Value} {i : Nat} {u : Value} (h : Own w b t cs) (hu : cs[i]? = some u) : w.rangeAt b (0 + i * 1) [u] := Own.one h hu (by omega)
theorem LentRows.row {w : World} {lo hi : Nat} {v : Value} {xss : List (List Int)} (h : LentRows lo hi w v xss) : IntRowsB lo hi w v xss := by
 obtain ⟨b,vs,b77,rfl,h1,h2,h3,h4,h5,h6,h7,h8⟩ := h
 refine ⟨_,_,rfl,by omega,fun i x hx => ?_⟩
 obtain ⟨u,k1,k2,k3⟩ := h8 i x hx
 exact ⟨b,0,rfl,h1,h2,[u],rfl,Ih h3 (by rw [List.getElem?_append_left (List.getElem?_eq_some_iff.1 k1).1,k1]),u,rfl,k2.row (fun _ => rfl),k3⟩
abbrev vS (p : Nat × Nat × Nat) : Value := .slice (some ⟨p.1,0,none⟩) p.2.1 p.2.2
abbrev fV (p : Nat × Nat × Nat) : List Value := [vS p]
theorem Sa : Af prog 27 = true := by kernel_rfl
theorem Vm {w : World} {lo hi : Nat} {v : Value} {xss : List (List Int)} (h : IntRowsB lo hi w v xss) (hl : xss.length * 24 ≤ 140737488351232) :
 Calls prog 27 [v].toArray w (Bg fun r w' => Kp w w' ∧ LentRows w.heap.size w'.heap.size w' r xss) := by
 obtain ⟨a,cap,rfl,hcap,hx⟩ := h
 refine call Aa func27 rfl ntmps27 (by kernel_rfl) ?_
 refine aw (by omega) (by omega) ?_
 refine ms Aa rfl rfl rfl rfl rfl rfl (by omega) (by omega) (by show (24 : Int) * _ ≤ _; omega) (by omega) ?_
 intro b w1 e1 s1 k1 m1
 have hn2 : ((xss.length : Int) + 1).toNat = xss.length + 1 := by omega
 have own0 : w1.ownsRow w.heap.size 23 1 (.slice (some ⟨b,0,none⟩) 0 (xss.length + 1)) 0 [] := ⟨rfl,.inr ⟨b,xss.length + 1,_,rfl,by omega,m1,by omega,by simp only [maxLen]; omega,by rw [hn2,List.size_toArray,I0]; rfl,by simp⟩⟩
 rw [hn2]
 refine loop Aa (σ := Nat) (fun i => [(0,.slice a xss.length cap),(3,.slice (some ⟨b,0,none⟩) i (xss.length + 1)),(4,.int .i64 i)])
  (fun i w' => Kp w w' ∧ b < w'.heap.size ∧ i ≤ xss.length ∧ ∃ vs : List Value,w'.ownsRow w.heap.size 23 1 (.slice (some ⟨b,0,none⟩) i (xss.length + 1)) i vs ∧ vs.length = i ∧ ∀ (j : Nat) (x : List Int),(xss.take i)[j]? = some x → ∃ u : Value,vs[j]? = some u ∧ Dv w.heap.size w'.heap.size w' u x ∧ x.length * 8 ≤ 140737488351232) (fun i => xss.length - i) 0
  ⟨rfl,rfl,rfl,trivial⟩ ⟨k1,by omega,by omega,[],own0,rfl,by simp⟩ ?_
 rintro i e0 w2 ⟨k2,hb2,hi,vs,o2,hvs,hin⟩
 refine sp (fun h3 => ?_) (fun h3 => ?_)
 · have hi' : i < xss.length := by omega
   obtain ⟨bx,ox,rfl,-,-,cs,hcs,hrd,u,rfl,hu,hul⟩ := hx i xss[i] (by simp)
   refine ne ⟨by omega,h3⟩ ?_
   refine ld Aa (k2.range hrd id) (by rfl) ?_
   have hcall := Hv (hu.chg k2 (fun _ _ _ h => h) (fun _ _ h => h)) hul
   refine cl Fr hcall ?_
   rintro r w3 ⟨k3,hr⟩
   have hr0 := hr
   obtain ⟨g,rfl,g1,g2,g3⟩ := hr
   refine ne (by decide) ?_
   refine nd fun q w4 e4 s4 k4 m4 => ?_
   have o4 := Ab (Ab o2 k3 fun _ _ h => h) k4 fun _ _ h => h
   have vrow : ∀ {W : World} {q : Nat} {z : Nat × Nat × Nat},W.heap[q]? = some (.cells [vS z].toArray 23 (0,0)) → RowE (fun _ cs x => cs = fV x) 1 0 W.heap.size W (.slice (some ⟨q,0,none⟩) 1 1) [z] := fun h => C8 (f := fV) (l := [_]) (fun _ => rfl) (by decide) h (by simp [maxLen])
   refine apR (f := fV) (xs := [(g,xss[i].length,xss[i].length + 2)]) Aa rfl rfl rfl rfl rfl rfl rfl (by decide) o4 (fun _ => rfl) (vrow m4) (fun _ => rfl) (by simp; omega) ?_
   intro w5 s5 o5 c5
   have k5 : Kp w w5 := (k2.trans (k3.trans k4)).newS c5 fun j hj => by omega
   refine aw (by omega) (by omega) ?_
   refine again (i + 1) ⟨rfl,rfl,rfl,trivial⟩ ⟨k5,by have := k3.size; omega,by omega,vs ++ [vS (g,xss[i].length,xss[i].length + 2)],o5,by simp [hvs],fun j x hj => ?_⟩ (by omega)
   have hT : ∀ b' cs,Own w4 b' 3 cs → ¬ b' = b := by
    rintro b' cs hb' rfl
    exact Ai o4 hb' (fun cs fr hc => by injection hc with _ h2; exact absurd h2 (by decide)) rfl
   have hj' := (List.getElem?_eq_some_iff.1 hj).1
   simp only [List.length_take] at hj'
   rcases Nat.lt_or_ge j i with hji | hji
   · obtain ⟨u',p1,p2,p3⟩ := hin j x (by rw [List.getElem?_take,if_pos hji]; rw [List.getElem?_take,if_pos (by omega)] at hj; exact hj)
     exact ⟨u',by rw [List.getElem?_append_left (by omega),p1],(((p2.chg k3 (fun _ _ _ h => h)).chg k4 (fun _ _ _ h => h)).chgT c5 hT).mono (Nat.le_refl _) (by have := k3.size; omega),p3⟩
   · have : j = i := by omega
     subst this
     rw [List.getElem?_take,if_pos (by omega),List.getElem?_eq_getElem hi'] at hj
     cases hj
     exact ⟨_,by rw [List.getElem?_append_right (by omega),hvs,Nat.sub_self]; rfl,((hr0.chg k4 (fun _ _ _ h => h)).chgT c5 hT).mono k2.size (by omega),hul⟩
 · have hin' : i = xss.length := by omega
   subst hin'
   rw [List.take_of_length_le (Nat.le_refl _)] at hin
   refine ne (by decide) ?_
   refine nd fun b77 w3 e3 s3 k3 m3 => ?_
   refine ne (by decide) ?_
   refine nd fun q w4 e4 s4 k4 m4 => ?_
   have o4 := Ab (Ab o2 k3 fun _ _ h => h) k4 fun _ _ h => h
   have vrow : ∀ {W : World} {q : Nat} {z : Nat × Nat × Nat},W.heap[q]? = some (.cells [vS z].toArray 23 (0,0)) → RowE (fun _ cs x => cs = fV x) 1 0 W.heap.size W (.slice (some ⟨q,0,none⟩) 1 1) [z] := fun h => C8 (f := fV) (l := [_]) (fun _ => rfl) (by decide) h (by simp [maxLen])
   refine apR (f := fV) (xs := [(b77,1,1)]) Aa rfl rfl rfl rfl rfl rfl rfl (by decide) o4 (fun _ => rfl) (vrow m4) (fun _ => rfl) (by simp) ?_
   intro w5 s5 o5 c5
   have k5 : Kp w w5 := (k2.trans (k3.trans k4)).newS c5 fun j hj => by omega
   have hT : ∀ b' cs,Own w4 b' 3 cs → ¬ b' = b := by
    rintro b' cs hb' rfl
    exact Ai o4 hb' (fun cs fr hc => by injection hc with _ h2; exact absurd h2 (by decide)) rfl
   obtain ⟨o6,hlo⟩ := Fl (show w5.ownsRow w.heap.size 23 1 (.slice (some ⟨b,0,none⟩) (xss.length + 1) (xss.length + 1)) (xss.length + 1) (vs ++ [m77 b77]) from o5)
   have hown77 : Own w4 b77 3 [.int .i64 (-77)] := k4.own m3 id
   refine ne ⟨by omega,by omega,by omega⟩ ?_
   refine ⟨k5,b,vs,b77,rfl,hlo,Am o6,o6,by have := k2.size; omega,by omega,c5.own hown77 (hT b77 _ hown77),hvs,fun j x hj => ?_⟩
   obtain ⟨u',p1,p2,p3⟩ := hin j x hj
   exact ⟨u',p1,(((p2.chg k3 (fun _ _ _ h => h)).chg k4 (fun _ _ _ h => h)).chgT c5 hT).mono (Nat.le_refl _) (by omega),p3⟩
theorem Pr : Af prog 42 = true := by kernel_rfl
theorem So {w : World} {lo hi lo2 hi2 : Nat} {v u : Value} {xss : List (List Int)} (h : LentRows lo hi w v xss) (h' : IntRowsB lo2 hi2 w u xss) (hl : xss.length < 4611686018427387904) :
 Calls prog 42 [v,u].toArray w (Bg fun r w' => r = .bool true ∧ Kp w w') := by
 obtain ⟨b,vs,b77,rfl,h1,h2,h3,h4,h5,h6,h7,h8⟩ := h
 obtain ⟨a,cap,rfl,hcap,hx⟩ := h'
 refine call Aa func42 rfl ntmps42 (by kernel_rfl) ?_
 have r1 : w.rangeAt b (0 + ((xss.length : Int)).toNat * 1) [m77 b77] := Ih h3 (by rw [Int.toNat_natCast,List.getElem?_append_right (by omega),h7,Nat.sub_self]; rfl)
 refine Bs (by omega) ?_
 refine aw (by omega) (by omega) ?_
 refine Bs (by omega) ?_
 refine aw (by omega) (by omega) ?_
 refine ne ⟨by omega,by omega,by omega⟩ ?_
 refine ne ⟨by omega,by omega⟩ ?_
 refine ld Aa r1 (by rfl) ?_
 refine Bs (by simp) ?_
 refine ne ⟨by omega,by omega⟩ ?_
 refine ld Aa r1 (by rfl) ?_
 refine ne ⟨by decide,by decide⟩ ?_
 refine ld Aa (Own.at_ (xs := [.int .i64 (-77)]) (o := 0) h6 rfl) (by rfl) ?_
 refine Bs (by simp) ?_
 refine loop Aa (σ := Nat) (fun i => [(0,.slice (some ⟨b,0,none⟩) xss.length (xss.length + 1)),(1,.slice a xss.length cap),(6,.int .i64 i)])
  (fun i w' => Kp w w' ∧ i ≤ xss.length) (fun i => xss.length - i) 0 ⟨rfl,rfl,rfl,trivial⟩ ⟨Chg.refl _ _,by omega⟩ ?_
 rintro i e0 w1 ⟨k1,hi⟩
 refine sp (fun h9 => ?_) (fun h9 => ?_)
 · have hi' : i < xss.length := by omega
   obtain ⟨bx,ox,rfl,-,-,cs,hcs,hrd,u,rfl,hu,hul⟩ := hx i xss[i] (by simp)
   obtain ⟨u1,p1,p2,p3⟩ := h8 i xss[i] (by simp)
   refine Ax Aa mixed 10 (by kernel_rfl) (fun _ => False) ?_
   conv => whnf
   refine ne ⟨by omega,by omega⟩ ?_
   conv => whnf
   refine A7 Aa rfl rfl (fun W h _ => Ih (i := i) ((k1.trans h).own h3 id) (u := u1) (by rw [List.getElem?_append_left (List.getElem?_eq_some_iff.1 p1).1,p1])) (by rfl) fun _ => ?_
   conv => whnf
   refine ne ⟨by omega,by omega⟩ ?_
   conv => whnf
   refine A7 Aa rfl rfl (fun W h _ => (k1.trans h).range hrd id) (by rfl) fun _ => ?_
   conv => whnf
   refine Co (v := .bool true) rfl rfl rfl E9 (fun W h _ => Gq (p2.chg (k1.trans h) fun _ _ _ h => h) (hu.chg (k1.trans h) (fun _ _ _ h => h) (fun _ _ h => h)) (by omega)) fun _ => ?_
   conv => whnf
   intro W h _
   refine aw (by omega) (by omega) ?_
   exact again (i + 1) ⟨rfl,rfl,rfl,trivial⟩ ⟨k1.trans h,by omega⟩ (by omega)
 · exact ⟨rfl,k1⟩
theorem Ps : Af prog 47 = true := by kernel_rfl
def WellRows (lo hi : Nat) (w : World) (v : Value) (n : Nat) : Prop :=
 ∃ b cap cur,v = .slice (some ⟨b,0,none⟩) n cap ∧ lo ≤ b ∧ b < hi ∧ n ≤ cap ∧ cap < 4611686018427387904 ∧ Own w b 23 cur ∧ cur.length = cap ∧ ∀ i,i < n → ∃ u m,cur[i]? = some u ∧ WellT Ty 3 1 lo hi w u m
theorem LentRows.well {w : World} {lo hi : Nat} {v : Value} {xss : List (List Int)} (h : LentRows lo hi w v xss) (hl : xss.length < 17592186044416) : WellRows lo hi w v xss.length := by
 obtain ⟨b,vs,b77,rfl,h1,h2,h3,h4,h5,h6,h7,h8⟩ := h
 refine ⟨b,_,_,rfl,h1,h2,by omega,by omega,h3,by simp [h7],fun i hi => ?_⟩
 obtain ⟨u,p1,p2,p3⟩ := h8 i xss[i] (by simp)
 exact ⟨u,_,by rw [List.getElem?_append_left (List.getElem?_eq_some_iff.1 p1).1,p1],p2.wellT (fun _ => rfl) rfl (by omega) ⟨fun _ => ⟨xss[i] ++ [-771,-772],by simp⟩,by simp,by simp,by simp⟩⟩
theorem WellRows.keep {S : Nat → Prop} {w w' : World} {lo hi n : Nat} {v : Value} (h : WellRows lo hi w v n) (hc : Chg S w w') (hS : ∀ b cs,Own w b 23 cs → ¬ S b) (hs : Shp Ty w w') : WellRows lo hi w' v n := by
 obtain ⟨b,cap,cur,hv,h1,h2,h3,h4,h5,h6,h7⟩ := h
 exact ⟨b,cap,cur,hv,h1,h2,h3,h4,hc.own h5 (hS b cur h5),h6,fun i hi => by
  obtain ⟨u,m,p1,p2⟩ := h7 i hi
  exact ⟨u,m,p1,p2.shp hs⟩⟩
theorem Su {w : World} {lo hi n : Nat} {v : Value} (h : WellRows lo hi w v n) (hhi : hi ≤ w.heap.size) :
 Calls prog 47 [v].toArray w (Bg fun _ w' => Chg (fun k => lo ≤ k ∧ k < hi) w w' ∧ (∀ b t cs,Own w b t cs → t ≠ 3 → t ≠ 23 → Own w' b t cs) ∧ Shp Ty w w' ∧ ∀ w'',Chg (fun k => hi ≤ k ∧ k < w.heap.size) w' w'' → H6 lo w''.heap.size w'' v (List.replicate n [-5])) := by
 obtain ⟨b,cap,cur,rfl,h1,h2,h3,h4,h5,h6,h7⟩ := h
 refine call Aa func47 rfl ntmps47 (by kernel_rfl) ?_
 refine loop Aa (σ := Nat) (fun i => [(0,.slice (some ⟨b,0,none⟩) n cap),(2,.int .i64 i)])
  (fun i w' => Chg (fun k => lo ≤ k ∧ k < hi) w w' ∧ i ≤ n ∧ (∀ b t cs,Own w b t cs → t ≠ 3 → t ≠ 23 → Own w' b t cs) ∧ Shp Ty w w' ∧ ∃ cur' : List Value,Own w' b 23 cur' ∧ cur'.length = cap ∧ (∀ j,j < i → ∃ q,cur'[j]? = some (m77 q) ∧ w.heap.size ≤ q ∧ q < w'.heap.size ∧ Own w' q 3 [.int .i64 (-5)]) ∧ ∀ j,i ≤ j → j < n → ∃ u m,cur'[j]? = some u ∧ WellT Ty 3 1 lo hi w' u m) (fun i => n - i) 0
  ⟨rfl,rfl,trivial⟩ ⟨Chg.refl _ _,by omega,fun _ _ _ h _ _ => h,Shp.refl _,cur,h5,h6,fun j hj => by omega,fun j _ hj => h7 j hj⟩ ?_
 rintro i e0 w1 ⟨k1,hin,hO1,hs1,cur',g1,g2,g3,g4⟩
 refine sp (fun h9 => ?_) (fun h9 => ?_)
 · obtain ⟨u,m,p1,p2⟩ := g4 i (Nat.le_refl _) (by omega)
   refine ne ⟨by omega,h9⟩ ?_
   refine ld Aa (Ih (i := i) g1 p1) (by rfl) ?_
   have hcall := Gs p2.well
   refine cl Fa hcall ?_
   rintro r w2 ⟨bu,cu,q1,q2,q3,q4,q5⟩
   have hbu : lo ≤ bu ∧ bu < hi := by
    obtain ⟨b',_,_,rfl,l1,l2,_⟩ := p2
    have : b' = bu := by simpa [Value.ownBlock] using q1
    omega
   refine ne (by decide) ?_
   refine nd fun q w3 e3 s3 k3 m3 => ?_
   have hbb : b ≠ bu := A2 g1 q2 (by decide)
   have g1' : Own w3 b 23 cur' := k3.own (q3.own g1 hbb) id
   have hw1 := k1.size
   refine ne ⟨by omega,h9⟩ ?_
   refine st Aa (o := 0 + ((i : Int)).toNat * 1) g1' rfl (by rw [Int.toNat_natCast,g2]; show 0 + i * 1 + 1 ≤ _; omega) rfl ?_
   intro w4 s4 k4 m4
   have m4 : Own w4 b 23 (cur'.set i (m77 q)) := by
    have m4 : Own w4 b 23 (cur'.set (0 + ((i : Int)).toNat * 1) (m77 q)) := m4
    rwa [Int.toNat_natCast,show 0 + i * 1 = i by omega] at m4
   have m3 : Own w3 q 3 [.int .i64 (-5)] := m3
   have hqb : q ≠ b := by omega
   have ks : Chg (fun k => lo ≤ k ∧ k < hi) w1 w4 := ((q3.mono fun k hk => by omega).trans (k3.mono fun _ hf => hf.elim)).trans (k4.mono fun k hk => by omega)
   have hshp : Shp Ty w1 w4 := (q5.trans k3.shp).trans (Ri k4 g1' m4 (by simp) ⟨by simp,by simp,by simp,by simp⟩)
   refine aw (by omega) (by omega) ?_
   refine again (i + 1) ⟨rfl,rfl,trivial⟩ ⟨k1.trans ks,by omega,fun b' t cs hb' t1 t2 => ?_,hs1.trans hshp,cur'.set i (m77 q),m4,by simp [g2],fun j hj => ?_,fun j hj1 hj2 => ?_⟩ (by omega)
   · have o1 := hO1 b' t cs hb' t1 t2
     exact k4.own (k3.own (q3.own o1 (A2 o1 q2 t1)) id) (A2 o1 g1 t2)
   · rcases Nat.lt_or_ge j i with hji | hji
     · obtain ⟨q',r1,r2,r3,r4⟩ := g3 j hji
       have hq'u : q' ≠ bu := by omega
       have hq'b : q' ≠ b := A2 r4 g1 (by decide)
       exact ⟨q',by rw [List.getElem?_set_ne (by omega),r1],r2,by omega,k4.own (k3.own (q3.own r4 hq'u) id) hq'b⟩
     · have : j = i := by omega
       subst this
       exact ⟨q,by rw [List.getElem?_set_self (by omega)],by omega,by omega,k4.own m3 hqb⟩
   · obtain ⟨u',m',r1,r2⟩ := g4 j (by omega) hj2
     exact ⟨u',m',by rw [List.getElem?_set_ne (by omega),r1],r2.shp hshp⟩
 · have : i = n := by omega
   subst this
   refine ⟨k1,hO1,hs1,fun w'' kk => ⟨some ⟨b,0,none⟩,cap,by rw [List.length_replicate],by simpa using h3,fun j x hx => ?_⟩⟩
   have hj : j < i := by have := (List.getElem?_eq_some_iff.1 hx).1; simpa using this
   have hx5 : x = [-5] := by
    rw [List.getElem?_replicate,if_pos hj] at hx
    exact (Option.some.inj hx).symm
   subst hx5
   obtain ⟨q,r1,r2,r3,r4⟩ := g3 j hj
   have g1 := kk.own g1 (by omega)
   refine ⟨b,0,rfl,h1,Am g1,[m77 q],rfl,Ih g1 r1,m77 q,rfl,?_,by simp⟩
   exact (C8 (f := fI) (l := [-5]) (fun _ => rfl) (by decide) (kk.own r4 (by omega)) (by simp [maxLen])).lo1 (by omega)
theorem Hw {α : Type} {el : TypeId} {f : α → List Value} {marks : List Value} {k lo : Nat} {W W' : World} {v : Value} {xs : List α} (h : Lent el f marks k lo W.heap.size W v xs) (hc : Kp W W') : Lent el f marks k lo W'.heap.size W' v xs := (h.chg hc fun _ _ _ h => h).mono (Nat.le_refl _) hc.size
structure Gin (lo hi : Nat) (w : World) (p i e s : Value) (g : General) : Prop where
 props : Ib lo hi w p g.props
 init : Ef lo hi w i g.init
 edges : C9 lo hi w e g.edges
 sets : IntRowsB lo hi w s g.sets
 lp : g.props.length * 16 ≤ 140737488351232
 li : g.init.length * 8 ≤ 140737488351232
 le : g.edges.length * 24 ≤ 140737488351232
 ls : g.sets.length * 24 ≤ 140737488351232
structure Glent (lo hi : Nat) (w : World) (p i e s : Value) (g : General) : Prop where
 props : Ga lo hi w p g.props
 init : Dv lo hi w i g.init
 edges : Gb lo hi w e g.edges
 wf : ∀ x ∈ g.edges,x.wf
 sets : LentRows lo hi w s g.sets
theorem Glent.chg {S : Nat → Prop} {lo hi : Nat} {w w' : World} {p i e s : Value} {g : General} (h : Glent lo hi w p i e s g) (hc : Chg S w w') (hs : ∀ k,lo ≤ k → k < hi → ¬ S k) : Glent lo hi w' p i e s g :=
 ⟨h.props.chg hc hs,h.init.chg hc hs,h.edges.chg hc hs,h.wf,h.sets.chg hc hs⟩
theorem Glent.mono {lo hi lo' hi' : Nat} {w : World} {p i e s : Value} {g : General} (h : Glent lo hi w p i e s g) (h1 : lo' ≤ lo) (h2 : hi ≤ hi') : Glent lo' hi' w p i e s g :=
 ⟨h.props.mono h1 h2,h.init.mono h1 h2,h.edges.mono h1 h2,h.wf,h.sets.mono h1 h2⟩
theorem Gin.wf {lo hi : Nat} {w : World} {p i e s : Value} {g : General} (h : Gin lo hi w p i e s g) : ∀ x ∈ g.edges,x.wf := fun x hx => by
 obtain ⟨a,c,-,-,hh⟩ := h.edges
 obtain ⟨j,hj,rfl⟩ := List.getElem_of_mem hx
 obtain ⟨b,o,-,-,-,cs,-,-,-,hw⟩ := hh j g.edges[j] (by simp)
 exact hw
theorem Gin.edges' {lo hi : Nat} {w : World} {p i e s : Value} {g : General} (h : Gin lo hi w p i e s g) : RowE (fun _ cs x => cs = Edge.cells x) 4 lo hi w e g.edges := h.edges.mono (fun _ _ h => h.1) (Nat.le_refl _) (Nat.le_refl _)
theorem Gin.chg {S : Nat → Prop} {lo hi : Nat} {w w' : World} {p i e s : Value} {g : General} (h : Gin lo hi w p i e s g) (hc : Chg S w w') (hs : ∀ k,lo ≤ k → k < hi → ¬ S k) : Gin lo hi w' p i e s g :=
 ⟨h.props.chg hc hs (fun _ _ h => h),h.init.chg hc hs (fun _ _ h => h),h.edges.chg hc hs (fun _ _ h => h),h.sets.chg hc hs,h.lp,h.li,h.le,h.ls⟩
theorem Gin.gen {lo hi : Nat} {w : World} {p i e s : Value} {g : General} (h : Gin lo hi w p i e s g) : GenV lo hi w p i e s g :=
 ⟨h.props,h.init,h.edges,h.sets.rows,by have := h.lp; omega,by have := h.li; omega,by have := h.le; omega,by have := h.ls; omega⟩
theorem Glent.row {lo hi lo2 hi2 : Nat} {w w2 : World} {p i e s p2 i2 e2 s2 : Value} {g : General} (h : Glent lo hi w p i e s g) (h' : Gin lo2 hi2 w2 p2 i2 e2 s2 g) : Gin lo hi w p i e s g :=
 ⟨h.props.row (fun _ => rfl),h.init.row (fun _ => rfl),(h.edges.row (size := 4) (fun _ => rfl)).and h.wf,h.sets.row,h'.lp,h'.li,h'.le,h'.ls⟩
set_option maxHeartbeats 2000000 in
theorem Pp {w : World} {lo hi : Nat} {pv iv ev sv : Value} {g : General} (hv : Gin lo hi w pv iv ev sv g) :
 Calls prog 7 [.agg #[pv,.int .i64 g.states,iv,ev,sv]].toArray w (Bg fun r w' => Kp w w' ∧ ∃ p i e s,r = .agg #[p,.int .i64 g.states,i,e,s] ∧ Glent w.heap.size w'.heap.size w' p i e s g) := by
 refine call Aa func7 rfl ntmps7 (by kernel_rfl) ?_
 refine nd fun p w1 e1 s1 k1 m1 => ?_
 have m1 : Own w1 p 27 [pv,.int .i64 g.states,iv,ev,sv] := m1
 refine nd fun q w2 e2 s2 k2 m2 => ?_
 have m1 := k2.own m1 id
 have k12 := k1.trans k2
 have hin : ∀ W,Kp w2 W → Gin lo hi W pv iv ev sv g := fun W h => hv.chg (k12.trans h) fun _ _ _ h => h
 refine Gn Aa mixed 15 [0,1,2,5,6,7,8,9,10,11,12,13,3,4,14] (by kernel_rfl) ?_
 conv => whnf
 refine A7 Aa rfl rfl (fun W h _ => Own.at_ (xs := [pv]) (o := 0) (h.own m1 id) rfl) (by rfl) fun _ => ?_
 conv => whnf
 refine Gp (fun b : Nat => .slice (some ⟨b,0,none⟩) g.props.length (g.props.length + 2)) (fun b W => Ga w2.heap.size W.heap.size W (.slice (some ⟨b,0,none⟩) g.props.length (g.props.length + 2)) g.props) rfl rfl rfl (fun b W W' h k => Hw h k) Jt (fun W h _ => (Mp (hin W h).props hv.lp).mono fun en W' hr => ?_) fun bp Dp hDp => ?_
 · cases en with
   | returned v =>
    obtain ⟨k,b,rfl,h1,h2⟩ := hr
    exact ⟨k,b,rfl,b,rfl,by have := h.size; omega,h2⟩
   | _ => exact hr.elim
 conv => whnf
 refine A7 Aa rfl rfl (fun W h _ => Own.at_ (xs := [iv]) (o := 2) (h.own m1 id) rfl) (by rfl) fun _ => ?_
 conv => whnf
 refine Gp (fun b : Nat => .slice (some ⟨b,0,none⟩) g.init.length (g.init.length + 2)) (fun b W => Dv w2.heap.size W.heap.size W (.slice (some ⟨b,0,none⟩) g.init.length (g.init.length + 2)) g.init) rfl rfl rfl (fun b W W' h k => Hw h k) Fr (fun W h _ => (Hv (hin W h).init hv.li).mono fun en W' hr => ?_) fun bi Di hDi => ?_
 · cases en with
   | returned v =>
    obtain ⟨k,b,rfl,h1,h2⟩ := hr
    exact ⟨k,b,rfl,b,rfl,by have := h.size; omega,h2⟩
   | _ => exact hr.elim
 conv => whnf
 refine A7 Aa rfl rfl (fun W h _ => Own.at_ (xs := [ev]) (o := 3) (h.own m1 id) rfl) (by rfl) fun _ => ?_
 conv => whnf
 refine Gp (fun b : Nat => .slice (some ⟨b,0,none⟩) g.edges.length (g.edges.length + 2)) (fun b W => Gb w2.heap.size W.heap.size W (.slice (some ⟨b,0,none⟩) g.edges.length (g.edges.length + 2)) g.edges) rfl rfl rfl (fun b W W' h k => Hw h k) Ju (fun W h _ => (Mq (hin W h).edges' hv.le).mono fun en W' hr => ?_) fun be De hDe => ?_
 · cases en with
   | returned v =>
    obtain ⟨k,b,rfl,h1,h2⟩ := hr
    exact ⟨k,b,rfl,b,rfl,by have := h.size; omega,h2⟩
   | _ => exact hr.elim
 conv => whnf
 refine A7 Aa rfl rfl (fun W h _ => Own.at_ (xs := [sv]) (o := 4) (h.own m1 id) rfl) (by rfl) fun _ => ?_
 conv => whnf
 refine Gp (fun b : Nat => .slice (some ⟨b,0,none⟩) g.sets.length (g.sets.length + 1)) (fun b W => LentRows w2.heap.size W.heap.size W (.slice (some ⟨b,0,none⟩) g.sets.length (g.sets.length + 1)) g.sets) rfl rfl rfl (fun b W W' h k => (h.chg k fun _ _ _ h => h).mono (Nat.le_refl _) k.size) Sa (fun W h _ => (Vm (hin W h).sets hv.ls).mono fun en W' hr => ?_) fun bs Ds hDs => ?_
 · cases en with
   | returned v =>
    obtain ⟨k,hr⟩ := hr
    have hr2 := hr.mono h.size (Nat.le_refl _)
    obtain ⟨b,vs,b77,rfl,-⟩ := hr
    exact ⟨k,b,rfl,hr2⟩
   | _ => exact hr.elim
 conv => whnf
 refine A7 Aa rfl rfl (fun W h _ => Own.at_ (xs := [.int .i64 g.states]) (o := 1) (h.own m1 id) rfl) (by rfl) fun _ => ?_
 conv => whnf
 intro W h hd
 have gp := hDp W (hd 2)
 have gi := hDi W (hd 7)
 have ge := hDe W (hd 10)
 have gs := hDs W (hd 13)
 refine st Aa (cs := Bc ti27.zero) (h.own m2 id) rfl (Nat.le_refl 5) rfl ?_
 intro w3 s3 k3 m3
 refine ld (v := .agg #[.slice (some ⟨bp,0,none⟩) g.props.length (g.props.length + 2),.int .i64 g.states,.slice (some ⟨bi,0,none⟩) g.init.length (g.init.length + 2),.slice (some ⟨be,0,none⟩) g.edges.length (g.edges.length + 2),.slice (some ⟨bs,0,none⟩) g.sets.length (g.sets.length + 1)]) Aa (Own.at_ (xs := [.slice (some ⟨bp,0,none⟩) g.props.length (g.props.length + 2),.int .i64 g.states,.slice (some ⟨bi,0,none⟩) g.init.length (g.init.length + 2),.slice (some ⟨be,0,none⟩) g.edges.length (g.edges.length + 2),.slice (some ⟨bs,0,none⟩) g.sets.length (g.sets.length + 1)]) (o := 0) m3 rfl) (by rfl) ?_
 refine ⟨(k12.trans h).newS k3 fun j hj => by omega,_,_,_,_,rfl,?_⟩
 have hS : ∀ k,w2.heap.size ≤ k → k < W.heap.size → ¬ k = q := fun k h1 h2 => by omega
 rw [s3]
 exact (show Glent w2.heap.size W.heap.size w3 _ _ _ _ g from ⟨gp.chg k3 hS,gi.chg k3 hS,ge.chg k3 hS,hv.wf,gs.chg k3 hS⟩).mono k12.size (Nat.le_refl _)
theorem M8 : Af prog 7 = true := by kernel_rfl
theorem Np {w : World} {lo hi lo2 hi2 : Nat} {p i e s p2 i2 e2 s2 : Value} {g : General} (h : Glent lo hi w p i e s g) (h' : Gin lo2 hi2 w p2 i2 e2 s2 g) :
 Calls prog 12 [.agg #[p,.int .i64 g.states,i,e,s],.agg #[p2,.int .i64 g.states,i2,e2,s2]].toArray w (Bg fun r w' => r = .bool true ∧ Kp w w') := by
 refine call Aa func12 rfl ntmps12 (by kernel_rfl) ?_
 refine nd fun b1 w1 e1' s1' k1 m1 => ?_
 have m1 : Own w1 b1 27 [p,.int .i64 g.states,i,e,s] := m1
 refine nd fun b2 w2 e2' s2' k2 m2 => ?_
 have m2 : Own w2 b2 27 [p2,.int .i64 g.states,i2,e2,s2] := m2
 have m1 := k2.own m1 id
 have k12 := k1.trans k2
 have A : ∀ W,Kp w2 W → Glent lo hi W p i e s g := fun W k => h.chg (k12.trans k) fun _ _ _ h => h
 have B : ∀ W,Kp w2 W → Gin lo2 hi2 W p2 i2 e2 s2 g := fun W k => h'.chg (k12.trans k) fun _ _ _ h => h
 have c := h'.gen
 refine ld Aa (Own.at_ (xs := [p]) (o := 0) m1 rfl) (by rfl) ?_
 refine ld Aa (Own.at_ (xs := [p2]) (o := 0) m2 rfl) (by rfl) ?_
 refine cl Io (Km (A _ (Chg.refl _ _)).props (B _ (Chg.refl _ _)).props c.lp) ?_
 rintro _ w3 ⟨rfl,k3⟩
 refine ld Aa (Own.at_ (xs := [.int .i64 g.states]) (o := 1) (k3.own m1 id) rfl) (by rfl) ?_
 refine ld Aa (Own.at_ (xs := [.int .i64 g.states]) (o := 1) (k3.own m2 id) rfl) (by rfl) ?_
 refine Dj rfl ?_
 refine ld Aa (Own.at_ (xs := [i]) (o := 2) (k3.own m1 id) rfl) (by rfl) ?_
 refine ld Aa (Own.at_ (xs := [i2]) (o := 2) (k3.own m2 id) rfl) (by rfl) ?_
 refine cl E9 (Gq (A _ k3).init (B _ k3).init c.li) ?_
 rintro _ w4 ⟨rfl,k4⟩
 replace k4 := k3.trans k4
 refine ld Aa (Own.at_ (xs := [e]) (o := 3) (k4.own m1 id) rfl) (by rfl) ?_
 refine ld Aa (Own.at_ (xs := [e2]) (o := 3) (k4.own m2 id) rfl) (by rfl) ?_
 refine cl Ip (Kn (A _ k4).edges (B _ k4).edges' c.le) ?_
 rintro _ w5 ⟨rfl,k5⟩
 replace k5 := k4.trans k5
 refine ld Aa (Own.at_ (xs := [s]) (o := 4) (k5.own m1 id) rfl) (by rfl) ?_
 refine ld Aa (Own.at_ (xs := [s2]) (o := 4) (k5.own m2 id) rfl) (by rfl) ?_
 refine cl Pr (So (A _ k5).sets (B _ k5).sets (by have := h'.ls; omega)) ?_
 rintro _ w6 ⟨rfl,k6⟩
 exact ⟨rfl,k12.trans (k5.trans k6)⟩
theorem L4 : Af prog 12 = true := by kernel_rfl
structure Bin (lo hi : Nat) (w : World) (p i e s : Value) (g : Buchi) : Prop where
 props : Ib lo hi w p g.props
 init : Ef lo hi w i g.init
 edges : C9 lo hi w e g.edges
 final : Ef lo hi w s g.final
 lp : g.props.length * 16 ≤ 140737488351232
 li : g.init.length * 8 ≤ 140737488351232
 le : g.edges.length * 24 ≤ 140737488351232
 ls : g.final.length * 8 ≤ 140737488351232
structure Blent (lo hi : Nat) (w : World) (p i e s : Value) (g : Buchi) : Prop where
 props : Ga lo hi w p g.props
 init : Dv lo hi w i g.init
 edges : Gb lo hi w e g.edges
 wf : ∀ x ∈ g.edges,x.wf
 final : Dv lo hi w s g.final
theorem Blent.chg {S : Nat → Prop} {lo hi : Nat} {w w' : World} {p i e s : Value} {g : Buchi} (h : Blent lo hi w p i e s g) (hc : Chg S w w') (hs : ∀ k,lo ≤ k → k < hi → ¬ S k) : Blent lo hi w' p i e s g :=
 ⟨h.props.chg hc hs,h.init.chg hc hs,h.edges.chg hc hs,h.wf,h.final.chg hc hs⟩
theorem Blent.mono {lo hi lo' hi' : Nat} {w : World} {p i e s : Value} {g : Buchi} (h : Blent lo hi w p i e s g) (h1 : lo' ≤ lo) (h2 : hi ≤ hi') : Blent lo' hi' w p i e s g :=
 ⟨h.props.mono h1 h2,h.init.mono h1 h2,h.edges.mono h1 h2,h.wf,h.final.mono h1 h2⟩
theorem Bin.wf {lo hi : Nat} {w : World} {p i e s : Value} {g : Buchi} (h : Bin lo hi w p i e s g) : ∀ x ∈ g.edges,x.wf := fun x hx => by
 obtain ⟨a,c,-,-,hh⟩ := h.edges
 obtain ⟨j,hj,rfl⟩ := List.getElem_of_mem hx
 obtain ⟨b,o,-,-,-,cs,-,-,-,hw⟩ := hh j g.edges[j] (by simp)
 exact hw
theorem Bin.edges' {lo hi : Nat} {w : World} {p i e s : Value} {g : Buchi} (h : Bin lo hi w p i e s g) : RowE (fun _ cs x => cs = Edge.cells x) 4 lo hi w e g.edges := h.edges.mono (fun _ _ h => h.1) (Nat.le_refl _) (Nat.le_refl _)
theorem Bin.chg {S : Nat → Prop} {lo hi : Nat} {w w' : World} {p i e s : Value} {g : Buchi} (h : Bin lo hi w p i e s g) (hc : Chg S w w') (hs : ∀ k,lo ≤ k → k < hi → ¬ S k) : Bin lo hi w' p i e s g :=
 ⟨h.props.chg hc hs (fun _ _ h => h),h.init.chg hc hs (fun _ _ h => h),h.edges.chg hc hs (fun _ _ h => h),h.final.chg hc hs (fun _ _ h => h),h.lp,h.li,h.le,h.ls⟩
theorem Bin.gen {lo hi : Nat} {w : World} {p i e s : Value} {g : Buchi} (h : Bin lo hi w p i e s g) : BuchiV lo hi w p i e s g :=
 ⟨h.props,h.init,h.edges,h.final,by have := h.lp; omega,by have := h.li; omega,by have := h.le; omega,by have := h.ls; omega⟩
theorem Blent.row {lo hi lo2 hi2 : Nat} {w w2 : World} {p i e s p2 i2 e2 s2 : Value} {g : Buchi} (h : Blent lo hi w p i e s g) (h' : Bin lo2 hi2 w2 p2 i2 e2 s2 g) : Bin lo hi w p i e s g :=
 ⟨h.props.row (fun _ => rfl),h.init.row (fun _ => rfl),(h.edges.row (size := 4) (fun _ => rfl)).and h.wf,h.final.row (fun _ => rfl),h'.lp,h'.li,h'.le,h'.ls⟩
set_option maxHeartbeats 2000000 in
theorem Mr {w : World} {lo hi : Nat} {pv iv ev sv : Value} {g : Buchi} (hv : Bin lo hi w pv iv ev sv g) :
 Calls prog 8 [.agg #[pv,.int .i64 g.states,iv,ev,sv]].toArray w (Bg fun r w' => Kp w w' ∧ ∃ p i e s,r = .agg #[p,.int .i64 g.states,i,e,s] ∧ Blent w.heap.size w'.heap.size w' p i e s g) := by
 refine call Aa func8 rfl ntmps8 (by kernel_rfl) ?_
 refine nd fun p w1 e1 s1 k1 m1 => ?_
 have m1 : Own w1 p 29 [pv,.int .i64 g.states,iv,ev,sv] := m1
 refine nd fun q w2 e2 s2 k2 m2 => ?_
 have m1 := k2.own m1 id
 have k12 := k1.trans k2
 have hin : ∀ W,Kp w2 W → Bin lo hi W pv iv ev sv g := fun W h => hv.chg (k12.trans h) fun _ _ _ h => h
 refine Gn Aa mixed 15 [0,1,2,5,6,7,8,9,10,11,12,13,3,4,14] (by kernel_rfl) ?_
 conv => whnf
 refine A7 Aa rfl rfl (fun W h _ => Own.at_ (xs := [pv]) (o := 0) (h.own m1 id) rfl) (by rfl) fun _ => ?_
 conv => whnf
 refine Gp (fun b : Nat => .slice (some ⟨b,0,none⟩) g.props.length (g.props.length + 2)) (fun b W => Ga w2.heap.size W.heap.size W (.slice (some ⟨b,0,none⟩) g.props.length (g.props.length + 2)) g.props) rfl rfl rfl (fun b W W' h k => Hw h k) Jt (fun W h _ => (Mp (hin W h).props hv.lp).mono fun en W' hr => ?_) fun bp Dp hDp => ?_
 · cases en with
   | returned v =>
    obtain ⟨k,b,rfl,h1,h2⟩ := hr
    exact ⟨k,b,rfl,b,rfl,by have := h.size; omega,h2⟩
   | _ => exact hr.elim
 conv => whnf
 refine A7 Aa rfl rfl (fun W h _ => Own.at_ (xs := [iv]) (o := 2) (h.own m1 id) rfl) (by rfl) fun _ => ?_
 conv => whnf
 refine Gp (fun b : Nat => .slice (some ⟨b,0,none⟩) g.init.length (g.init.length + 2)) (fun b W => Dv w2.heap.size W.heap.size W (.slice (some ⟨b,0,none⟩) g.init.length (g.init.length + 2)) g.init) rfl rfl rfl (fun b W W' h k => Hw h k) Fr (fun W h _ => (Hv (hin W h).init hv.li).mono fun en W' hr => ?_) fun bi Di hDi => ?_
 · cases en with
   | returned v =>
    obtain ⟨k,b,rfl,h1,h2⟩ := hr
    exact ⟨k,b,rfl,b,rfl,by have := h.size; omega,h2⟩
   | _ => exact hr.elim
 conv => whnf
 refine A7 Aa rfl rfl (fun W h _ => Own.at_ (xs := [ev]) (o := 3) (h.own m1 id) rfl) (by rfl) fun _ => ?_
 conv => whnf
 refine Gp (fun b : Nat => .slice (some ⟨b,0,none⟩) g.edges.length (g.edges.length + 2)) (fun b W => Gb w2.heap.size W.heap.size W (.slice (some ⟨b,0,none⟩) g.edges.length (g.edges.length + 2)) g.edges) rfl rfl rfl (fun b W W' h k => Hw h k) Ju (fun W h _ => (Mq (hin W h).edges' hv.le).mono fun en W' hr => ?_) fun be De hDe => ?_
 · cases en with
   | returned v =>
    obtain ⟨k,b,rfl,h1,h2⟩ := hr
    exact ⟨k,b,rfl,b,rfl,by have := h.size; omega,h2⟩
   | _ => exact hr.elim
 conv => whnf
 refine A7 Aa rfl rfl (fun W h _ => Own.at_ (xs := [sv]) (o := 4) (h.own m1 id) rfl) (by rfl) fun _ => ?_
 conv => whnf
 refine Gp (fun b : Nat => .slice (some ⟨b,0,none⟩) g.final.length (g.final.length + 2)) (fun b W => Dv w2.heap.size W.heap.size W (.slice (some ⟨b,0,none⟩) g.final.length (g.final.length + 2)) g.final) rfl rfl rfl (fun b W W' h k => Hw h k) Fr (fun W h _ => (Hv (hin W h).final hv.ls).mono fun en W' hr => ?_) fun bs Ds hDs => ?_
 · cases en with
   | returned v =>
    obtain ⟨k,hr⟩ := hr
    have hr2 := hr.mono h.size (Nat.le_refl _)
    obtain ⟨b,rfl,-⟩ := hr
    exact ⟨k,b,rfl,hr2⟩
   | _ => exact hr.elim
 conv => whnf
 refine A7 Aa rfl rfl (fun W h _ => Own.at_ (xs := [.int .i64 g.states]) (o := 1) (h.own m1 id) rfl) (by rfl) fun _ => ?_
 conv => whnf
 intro W h hd
 have gp := hDp W (hd 2)
 have gi := hDi W (hd 7)
 have ge := hDe W (hd 10)
 have gs := hDs W (hd 13)
 refine st Aa (cs := Bc ti29.zero) (h.own m2 id) rfl (Nat.le_refl 5) rfl ?_
 intro w3 s3 k3 m3
 refine ld (v := .agg #[.slice (some ⟨bp,0,none⟩) g.props.length (g.props.length + 2),.int .i64 g.states,.slice (some ⟨bi,0,none⟩) g.init.length (g.init.length + 2),.slice (some ⟨be,0,none⟩) g.edges.length (g.edges.length + 2),.slice (some ⟨bs,0,none⟩) g.final.length (g.final.length + 2)]) Aa (Own.at_ (xs := [.slice (some ⟨bp,0,none⟩) g.props.length (g.props.length + 2),.int .i64 g.states,.slice (some ⟨bi,0,none⟩) g.init.length (g.init.length + 2),.slice (some ⟨be,0,none⟩) g.edges.length (g.edges.length + 2),.slice (some ⟨bs,0,none⟩) g.final.length (g.final.length + 2)]) (o := 0) m3 rfl) (by rfl) ?_
 refine ⟨(k12.trans h).newS k3 fun j hj => by omega,_,_,_,_,rfl,?_⟩
 have hS : ∀ k,w2.heap.size ≤ k → k < W.heap.size → ¬ k = q := fun k h1 h2 => by omega
 rw [s3]
 exact (show Blent w2.heap.size W.heap.size w3 _ _ _ _ g from ⟨gp.chg k3 hS,gi.chg k3 hS,ge.chg k3 hS,hv.wf,gs.chg k3 hS⟩).mono k12.size (Nat.le_refl _)
theorem Jv : Af prog 8 = true := by kernel_rfl
theorem Ko {w : World} {lo hi lo2 hi2 : Nat} {p i e s p2 i2 e2 s2 : Value} {g : Buchi} (h : Blent lo hi w p i e s g) (h' : Bin lo2 hi2 w p2 i2 e2 s2 g) :
 Calls prog 13 [.agg #[p,.int .i64 g.states,i,e,s],.agg #[p2,.int .i64 g.states,i2,e2,s2]].toArray w (Bg fun r w' => r = .bool true ∧ Kp w w') := by
 refine call Aa func13 rfl ntmps13 (by kernel_rfl) ?_
 refine nd fun b1 w1 e1' s1' k1 m1 => ?_
 have m1 : Own w1 b1 29 [p,.int .i64 g.states,i,e,s] := m1
 refine nd fun b2 w2 e2' s2' k2 m2 => ?_
 have m2 : Own w2 b2 29 [p2,.int .i64 g.states,i2,e2,s2] := m2
 have m1 := k2.own m1 id
 have k12 := k1.trans k2
 have A : ∀ W,Kp w2 W → Blent lo hi W p i e s g := fun W k => h.chg (k12.trans k) fun _ _ _ h => h
 have B : ∀ W,Kp w2 W → Bin lo2 hi2 W p2 i2 e2 s2 g := fun W k => h'.chg (k12.trans k) fun _ _ _ h => h
 have c := h'.gen
 refine ld Aa (Own.at_ (xs := [p]) (o := 0) m1 rfl) (by rfl) ?_
 refine ld Aa (Own.at_ (xs := [p2]) (o := 0) m2 rfl) (by rfl) ?_
 refine cl Io (Km (A _ (Chg.refl _ _)).props (B _ (Chg.refl _ _)).props c.lp) ?_
 rintro _ w3 ⟨rfl,k3⟩
 refine ld Aa (Own.at_ (xs := [.int .i64 g.states]) (o := 1) (k3.own m1 id) rfl) (by rfl) ?_
 refine ld Aa (Own.at_ (xs := [.int .i64 g.states]) (o := 1) (k3.own m2 id) rfl) (by rfl) ?_
 refine Dj rfl ?_
 refine ld Aa (Own.at_ (xs := [i]) (o := 2) (k3.own m1 id) rfl) (by rfl) ?_
 refine ld Aa (Own.at_ (xs := [i2]) (o := 2) (k3.own m2 id) rfl) (by rfl) ?_
 refine cl E9 (Gq (A _ k3).init (B _ k3).init c.li) ?_
 rintro _ w4 ⟨rfl,k4⟩
 replace k4 := k3.trans k4
 refine ld Aa (Own.at_ (xs := [e]) (o := 3) (k4.own m1 id) rfl) (by rfl) ?_
 refine ld Aa (Own.at_ (xs := [e2]) (o := 3) (k4.own m2 id) rfl) (by rfl) ?_
 refine cl Ip (Kn (A _ k4).edges (B _ k4).edges' c.le) ?_
 rintro _ w5 ⟨rfl,k5⟩
 replace k5 := k4.trans k5
 refine ld Aa (Own.at_ (xs := [s]) (o := 4) (k5.own m1 id) rfl) (by rfl) ?_
 refine ld Aa (Own.at_ (xs := [s2]) (o := 4) (k5.own m2 id) rfl) (by rfl) ?_
 refine cl E9 (Gq (A _ k5).final (B _ k5).final (by have := h'.ls; omega)) ?_
 rintro _ w6 ⟨rfl,k6⟩
 exact ⟨rfl,k12.trans (k5.trans k6)⟩
theorem Iq : Af prog 13 = true := by kernel_rfl
theorem Wk (xs : List ByteArray) : Ty 9 (xs.flatMap fS ++ [.string ⟨#[116,104,101,32,111,119,110,101,114,39,115]⟩,.string ⟨#[116,104,101,32,111,119,110,101,114,39,115]⟩]) :=
 ⟨by simp,fun _ => ⟨xs ++ [⟨#[116,104,101,32,111,119,110,101,114,39,115]⟩,⟨#[116,104,101,32,111,119,110,101,114,39,115]⟩],by simp⟩,by simp,by simp⟩
theorem Ux (xs : List Int) : Ty 3 (xs.flatMap fI ++ [.int .i64 (-771),.int .i64 (-772)]) := ⟨fun _ => ⟨xs ++ [-771,-772],by simp⟩,by simp,by simp,by simp⟩
theorem Wm {xs : List Edge} (h : ∀ x ∈ xs,x.wf) : Ty 67 (xs.flatMap Edge.cells ++ [.int .i64 (-7),.int .i64 0,.int .u16 0,.int .u16 0,.int .i64 (-8),.int .i64 0,.int .u16 0,.int .u16 0]) :=
 ⟨by simp,by simp,by simp,fun _ => ⟨xs ++ [⟨-7,0,0,0⟩,⟨-8,0,0,0⟩],by simp [Edge.cells],fun x hx => by
   rcases List.mem_append.1 hx with hx | hx
   · exact h x hx
   · simp at hx; rcases hx with rfl | rfl <;> simp [Edge.wf]⟩⟩
section
variable {w w' : World} {lo hi n : Nat} {v : Value}
theorem Py (h : WellT Ty 9 1 lo hi w v n) : ∃ ys : List ByteArray,ys.length = n ∧ Ib lo hi w v ys := by
 obtain ⟨ys,h1,-,h2⟩ := h.row (f := fS) (Q := fun _ => True) (fun _ => rfl) (by decide) (fun cs hT => by obtain ⟨xs,hx⟩ := hT.2.1 rfl; exact ⟨xs,hx,fun _ _ => trivial⟩)
 exact ⟨ys,h1,h2⟩
theorem Nq (h : WellT Ty 3 1 lo hi w v n) : ∃ ys : List Int,ys.length = n ∧ Ef lo hi w v ys := by
 obtain ⟨ys,h1,-,h2⟩ := h.row (f := fI) (Q := fun _ => True) (fun _ => rfl) (by decide) (fun cs hT => by obtain ⟨xs,hx⟩ := hT.1 rfl; exact ⟨xs,hx,fun _ _ => trivial⟩)
 exact ⟨ys,h1,h2⟩
theorem Pz (h : WellT Ty 67 4 lo hi w v n) : ∃ ys : List Edge,ys.length = n ∧ C9 lo hi w v ys := by
 obtain ⟨ys,h1,hw,h2⟩ := h.row (f := Edge.cells) (Q := Edge.wf) (fun _ => rfl) (by decide) (fun cs hT => hT.2.2.2 rfl)
 exact ⟨ys,h1,h2.and hw⟩
theorem WellT.at {t : TypeId} {size b : Nat} (h : WellT Ty t size lo hi w v n) (hb : v.ownBlock = some b) : lo ≤ b ∧ b < hi := by
 obtain ⟨b',_,_,rfl,l1,l2,_⟩ := h
 have : b' = b := by simpa [Value.ownBlock] using hb
 omega
end
theorem Nw {w w0 : World} {lo hi lo2 hi2 : Nat} {p i e s p2 i2 e2 s2 : Value} {g : General} (h : Glent lo hi w p i e s g) (h' : Gin lo2 hi2 w0 p2 i2 e2 s2 g) (hhi : hi ≤ w.heap.size) :
 Calls prog 15 [.agg #[p,.int .i64 g.states,i,e,s]].toArray w (Bg fun _ w' => Chg (fun k => lo ≤ k ∧ k < hi) w w' ∧ ∃ g' : General,g'.states = g.states ∧ ∀ w'',Chg (fun k => hi ≤ k ∧ k < w.heap.size) w' w'' → GenV lo w''.heap.size w'' p i e s g') := by
 obtain ⟨lp,li,le,ls⟩ : _ ∧ _ ∧ _ ∧ _ := ⟨h'.lp,h'.li,h'.le,h'.ls⟩
 refine call Aa func15 rfl ntmps15 (by kernel_rfl) ?_
 refine nd fun b1 w1 e1' s1' k1 m1 => ?_
 have m1 : Own w1 b1 27 [p,.int .i64 g.states,i,e,s] := m1
 have h := h.chg k1 fun _ _ _ h => h
 have tp := h.props.wellT (size := 1) (fun _ => rfl) rfl (by omega) (Wk g.props)
 have ti := h.init.wellT (size := 1) (fun _ => rfl) rfl (by omega) (Ux g.init)
 have te := h.edges.wellT (size := 4) (fun _ => rfl) rfl (by omega) (Wm h.wf)
 have tr := h.sets.well (by omega)
 refine ld Aa (Own.at_ (xs := [p]) (o := 0) m1 rfl) (by rfl) ?_
 have hcall := Kr tp.well
 refine cl Ir hcall ?_
 rintro _ w2 ⟨b2,c2,q1,q2,q3,q4,q5⟩
 have hb2 := tp.at q1
 replace tr := tr.keep q3 (fun b cs hb => A2 hb q2 (by decide)) q5
 replace tp := tp.shp q5
 replace ti := ti.shp q5
 replace te := te.shp q5
 replace m1 := q3.own m1 (by omega)
 have K2 : Chg (fun k => lo ≤ k ∧ k < hi) w w2 := (k1.mono fun _ hf => hf.elim).trans (q3.mono fun k hk => by omega)
 clear q1 q2 q3 q5 hb2
 refine ld Aa (Own.at_ (xs := [i]) (o := 2) m1 rfl) (by rfl) ?_
 have hcall := Gs ti.well
 refine cl Fa hcall ?_
 rintro _ w3 ⟨b3,c3,q1,q2,q3,q4',q5⟩
 have hb3 := ti.at q1
 replace tr := tr.keep q3 (fun b cs hb => A2 hb q2 (by decide)) q5
 replace tp := tp.shp q5
 replace ti := ti.shp q5
 replace te := te.shp q5
 replace m1 := q3.own m1 (by omega)
 replace K2 := K2.trans (q3.mono fun k hk => (by omega : lo ≤ k ∧ k < hi))
 clear q1 q2 q3 q5 hb3
 refine ld Aa (Own.at_ (xs := [e]) (o := 3) m1 rfl) (by rfl) ?_
 have hcall := Ks te.well
 refine cl Is hcall ?_
 rintro _ w4 ⟨b4,c4,q1,q2,q3,q4'',q5⟩
 have hb4 := te.at q1
 replace tr := tr.keep q3 (fun b cs hb => A2 hb q2 (by decide)) q5
 replace tp := tp.shp q5
 replace ti := ti.shp q5
 replace te := te.shp q5
 replace m1 := q3.own m1 (by omega)
 replace K2 := K2.trans (q3.mono fun k hk => (by omega : lo ≤ k ∧ k < hi))
 clear q1 q2 q3 q5 hb4
 refine ld Aa (Own.at_ (xs := [s]) (o := 4) m1 rfl) (by rfl) ?_
 have hcall := Su tr (by omega)
 refine cl Ps hcall ?_
 rintro _ w5 ⟨q1,q2,q3,q4⟩
 obtain ⟨xp,lxp,hxp⟩ := Py (tp.shp q3)
 obtain ⟨xi,lxi,hxi⟩ := Nq (ti.shp q3)
 obtain ⟨xe,lxe,hxe⟩ := Pz (te.shp q3)
 have hz := q1.size
 have hz4 := K2.size
 refine ⟨K2.trans q1,⟨xp,g.states,xi,xe,List.replicate g.sets.length [-5]⟩,rfl,fun w'' kk => ?_⟩
 have hz2 := kk.size
 exact ⟨(hxp.chg kk (fun _ _ _ h => by omega) (fun _ _ h => h)).mono (fun _ _ h => h) (Nat.le_refl _) (by omega),(hxi.chg kk (fun _ _ _ h => by omega) (fun _ _ h => h)).mono (fun _ _ h => h) (Nat.le_refl _) (by omega),(hxe.chg kk (fun _ _ _ h => by omega) (fun _ _ h => h)).mono (fun _ _ h => h) (Nat.le_refl _) (by omega),q4 w'' (kk.mono fun k hk => by omega),by show xp.length < _; omega,by show xi.length < _; omega,by show xe.length < _; omega,by show (List.replicate _ _).length < _; rw [List.length_replicate]; omega⟩
theorem L6 : Af prog 15 = true := by kernel_rfl
theorem Kt {w w0 : World} {lo hi lo2 hi2 : Nat} {p i e s p2 i2 e2 s2 : Value} {g : Buchi} (h : Blent lo hi w p i e s g) (h' : Bin lo2 hi2 w0 p2 i2 e2 s2 g) (hhi : hi ≤ w.heap.size) :
 Calls prog 16 [.agg #[p,.int .i64 g.states,i,e,s]].toArray w (Bg fun _ w' => Chg (fun k => lo ≤ k ∧ k < hi) w w' ∧ ∃ g' : Buchi,g'.states = g.states ∧ BuchiV lo w'.heap.size w' p i e s g') := by
 obtain ⟨lp,li,le,ls⟩ : _ ∧ _ ∧ _ ∧ _ := ⟨h'.lp,h'.li,h'.le,h'.ls⟩
 refine call Aa func16 rfl ntmps16 (by kernel_rfl) ?_
 refine nd fun b1 w1 e1' s1' k1 m1 => ?_
 have m1 : Own w1 b1 29 [p,.int .i64 g.states,i,e,s] := m1
 have h := h.chg k1 fun _ _ _ h => h
 have tp := h.props.wellT (size := 1) (fun _ => rfl) rfl (by omega) (Wk g.props)
 have ti := h.init.wellT (size := 1) (fun _ => rfl) rfl (by omega) (Ux g.init)
 have te := h.edges.wellT (size := 4) (fun _ => rfl) rfl (by omega) (Wm h.wf)
 have tf := h.final.wellT (size := 1) (fun _ => rfl) rfl (by omega) (Ux g.final)
 refine ld Aa (Own.at_ (xs := [p]) (o := 0) m1 rfl) (by rfl) ?_
 have hcall := Kr tp.well
 refine cl Ir hcall ?_
 rintro _ w2 ⟨b2,c2,q1,q2,q3,q4,q5⟩
 have hb2 := tp.at q1
 replace tf := tf.shp q5
 replace tp := tp.shp q5
 replace ti := ti.shp q5
 replace te := te.shp q5
 replace m1 := q3.own m1 (by omega)
 have K2 : Chg (fun k => lo ≤ k ∧ k < hi) w w2 := (k1.mono fun _ hf => hf.elim).trans (q3.mono fun k hk => by omega)
 clear q1 q2 q3 q5 hb2
 refine ld Aa (Own.at_ (xs := [i]) (o := 2) m1 rfl) (by rfl) ?_
 have hcall := Gs ti.well
 refine cl Fa hcall ?_
 rintro _ w3 ⟨b3,c3,q1,q2,q3,q4',q5⟩
 have hb3 := ti.at q1
 replace tf := tf.shp q5
 replace tp := tp.shp q5
 replace ti := ti.shp q5
 replace te := te.shp q5
 replace m1 := q3.own m1 (by omega)
 replace K2 := K2.trans (q3.mono fun k hk => (by omega : lo ≤ k ∧ k < hi))
 clear q1 q2 q3 q5 hb3
 refine ld Aa (Own.at_ (xs := [e]) (o := 3) m1 rfl) (by rfl) ?_
 have hcall := Ks te.well
 refine cl Is hcall ?_
 rintro _ w4 ⟨b4,c4,q1,q2,q3,q4'',q5⟩
 have hb4 := te.at q1
 replace tf := tf.shp q5
 replace tp := tp.shp q5
 replace ti := ti.shp q5
 replace te := te.shp q5
 replace m1 := q3.own m1 (by omega)
 replace K2 := K2.trans (q3.mono fun k hk => (by omega : lo ≤ k ∧ k < hi))
 clear q1 q2 q3 q5 hb4
 refine ld Aa (Own.at_ (xs := [s]) (o := 4) m1 rfl) (by rfl) ?_
 have hcall := Gs tf.well
 refine cl Fa hcall ?_
 rintro _ w5 ⟨b5,c5,q1,q2,q3,q4''',q5⟩
 have hb5 := tf.at q1
 obtain ⟨xp,lxp,hxp⟩ := Py (tp.shp q5)
 obtain ⟨xi,lxi,hxi⟩ := Nq (ti.shp q5)
 obtain ⟨xe,lxe,hxe⟩ := Pz (te.shp q5)
 obtain ⟨xf,lxf,hxf⟩ := Nq (tf.shp q5)
 have hz := k1.size
 refine ⟨K2.trans (q3.mono fun k hk => (by omega : lo ≤ k ∧ k < hi)),⟨xp,g.states,xi,xe,xf⟩,rfl,?_⟩
 exact ⟨hxp.mono (fun _ _ h => h) (Nat.le_refl _) (by omega),hxi.mono (fun _ _ h => h) (Nat.le_refl _) (by omega),hxe.mono (fun _ _ h => h) (Nat.le_refl _) (by omega),hxf.mono (fun _ _ h => h) (Nat.le_refl _) (by omega),by show xp.length < _; omega,by show xi.length < _; omega,by show xe.length < _; omega,by show xf.length < _; omega⟩
theorem It : Af prog 16 = true := by kernel_rfl
end Go.Au