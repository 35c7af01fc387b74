/- Own text of this workplace: a part of the proofs of this place's statements. -/
import Derived.Test.YtjibhchnhkjgkaaGreatP0
import Derived.Test.YtjibhchnhkjgkaaGreatG
import Derived.Test.YtjibhchnhkjgkaaGreatP2
import Derived.Test.YtjibhchnhkjgkaaGreatP3
import Derived.Test.YtjibhchnhkjgkaaGreatP4
import Derived.Test.YtjibhchnhkjgkaaGreatP5
import Derived.Test.YtjibhchnhkjgkaaGreatP6
set_option maxRecDepth 40000
set_option linter.unusedVariables false
set_option linter.unusedSimpArgs false
set_option linter.unusedSectionVars false
namespace Go.Au
open Go.Proofs.Tryz
open Go Go.RowKit Go.MapKept
theorem Wn {n k bn : Nat} {p : Ag} (h : InB n k p) (hn : n < 1000000000) (hk : k < 1000000000) (hb : bn < 1000000000) : T64 (Ex bn p) := by
 obtain ⟨h1,h2,h3,h4⟩ := h
 have e1 : 0 ≤ p.1 / (bn : Int) := Int.ediv_nonneg h1 (by omega)
 have e2 : p.1 / (bn : Int) ≤ p.1 := Int.ediv_le_self _ h1
 have e3 : 0 ≤ p.1 % (bn : Int) := by
  rcases Nat.eq_zero_or_pos bn with hz | hz
  · subst hz
    show 0 ≤ p.1 % (0 : Int)
    rw [Int.emod_zero]; exact h1
  · exact Int.emod_nonneg _ (by omega)
 have e4 : p.1 % (bn : Int) ≤ p.1 := by
  have := Int.mul_ediv_add_emod p.1 bn
  have := Int.mul_nonneg (show (0 : Int) ≤ bn by omega) e1
  omega
 exact ⟨show G7 (p.1 / (bn : Int)) from ⟨by omega,by omega⟩,show G7 (p.1 % (bn : Int)) from ⟨by omega,by omega⟩,show G7 p.2 from ⟨by omega,by omega⟩⟩
theorem Xl {bn : Nat} {p q : Int} (h : 0 ≤ q ∧ q < bn) : Ex bn (p * bn + q,0) = (p,q,0) := by
 have := Tz (s := 0) (bn := bn) (z := ⟨p,q,0,0⟩) (c := 0) h
 exact this
theorem O4 {g : General} (h : Al g = true) : ∀ e ∈ g.edges,bits .and .u16 e.must e.no = 0 := fun e he => by
 simp only [Al,Bool.and_eq_true] at h
 exact (Jo h.1.2 e he).2.2
theorem Qz : Af prog 19 = true := by kernel_rfl
set_option maxHeartbeats 8000000 in
theorem AaU {w : World} {pva iva eva fva pvb ivb evb fvb : Value} {a b0 : Buchi} (hv : BuchiV 0 w.heap.size w pva iva eva fva a) (hu : BuchiV 0 w.heap.size w pvb ivb evb fvb b0) (hela : a.edges.length ≤ 1000) (helb : b0.edges.length ≤ 1000)
 (han : a.states ≤ 60) (hbn : b0.states ≤ 60) :
 Calls prog 19 [.agg #[pva,.int .i64 a.states,iva,eva,fva],.agg #[pvb,.int .i64 b0.states,ivb,evb,fvb]].toArray w (Bg fun r w' => Kp w w' ∧ ((Bx a b0 = false ∧ r = .tuple #[.agg #[Ad,.int .i64 0,Ad,Ad,Ad],.int .i64 100]) ∨ (Bx a b0 = true ∧ ∃ y,r = .tuple #[Fg (Dq a b0) y,.int .i64 0] ∧ Ev w.heap.size w' (Dq a b0) y))) := by
 obtain ⟨pa,pc,rfl,-⟩ := id hv.props
 obtain ⟨ia,ic,rfl,-,hir⟩ := id hv.init
 obtain ⟨ea,ec,rfl,-⟩ := id hv.edges
 obtain ⟨sa,sc,rfl,-⟩ := id hv.final
 obtain ⟨pb,pd,rfl,-⟩ := id hu.props
 obtain ⟨ib,id',rfl,-,hjr⟩ := id hu.init
 obtain ⟨eb,ed,rfl,-⟩ := id hu.edges
 obtain ⟨sb,sd,rfl,-⟩ := id hu.final
 refine call Aa func19 rfl ntmps19 (by kernel_rfl) ?_
 refine nd fun b1 w1 e1 z1 k1 m1 => ?_
 have m1 : Own w1 b1 29 [.slice pa a.props.length pc,.int .i64 a.states,.slice ia a.init.length ic,.slice ea a.edges.length ec,.slice sa a.final.length sc] := m1
 refine nd fun b3 w2 e2 z2 k2 m3 => ?_
 have m3 : Own w2 b3 29 [.slice pb b0.props.length pd,.int .i64 b0.states,.slice ib b0.init.length id',.slice eb b0.edges.length ed,.slice sb b0.final.length sd] := m3
 refine nd fun b2 w2' e2' z2' k2' m2 => ?_
 have m2 : Own w2' b2 29 [Ad,.int .i64 0,Ad,Ad,Ad] := m2
 have m1 := (k2.trans k2').own m1 id
 have m3 := k2'.own m3 id
 have k12 := k1.trans (k2.trans k2')
 have agA : ∀ {W : World} {b : Nat},Own W b 29 [.slice pa a.props.length pc,.int .i64 a.states,.slice ia a.init.length ic,.slice ea a.edges.length ec,.slice sa a.final.length sc] → W.rangeAt b 0 [.slice pa a.props.length pc,.int .i64 a.states,.slice ia a.init.length ic,.slice ea a.edges.length ec,.slice sa a.final.length sc] := fun h => Own.all h
 have bad : ∀ {W : World},Kp w2' W → Kp w W := fun h => k12.trans h
 refine ld Aa (v := .agg #[.slice pa a.props.length pc,.int .i64 a.states,.slice ia a.init.length ic,.slice ea a.edges.length ec,.slice sa a.final.length sc]) (Own.all m1) (by rfl) ?_
 have hchk := Lu (hv.chg k12 (Nat.le_refl _) (Nat.le_refl _))
 have hexc : ∃ cc,Al a.general = cc := ⟨_,rfl⟩
 obtain ⟨cc,hc⟩ := hexc
 rw [hc] at hchk
 refine cl Kh hchk ?_
 rintro _ w2a ⟨rfl,k2a⟩
 have m1 := k2a.own m1 id
 have m2 := k2a.own m2 id
 have m3 := k2a.own m3 id
 have K2a := k12.trans k2a
 cases cc with
 | false =>
  refine Dj (by decide) ?_
  refine st Aa m2 rfl (Nat.le_refl 5) rfl ?_
  intro w4 z4 k4 m4
  have m4 : Own w4 b2 29 [Ad,.int .i64 0,Ad,Ad,Ad] := m4
  refine ld Aa (v := .agg #[Ad,.int .i64 0,Ad,Ad,Ad]) (Own.all m4) (by rfl) ?_
  exact ⟨K2a.newS k4 fun j hj => by have : j = b2 := hj; have := k1.size; have := k2.size; omega,.inl ⟨by unfold Bx; rw [hc]; rfl,rfl⟩⟩
 | true =>
  refine Bs (by decide) ?_
  refine ld Aa (v := .agg #[.slice pb b0.props.length pd,.int .i64 b0.states,.slice ib b0.init.length id',.slice eb b0.edges.length ed,.slice sb b0.final.length sd]) (Own.all m3) (by rfl) ?_
  have hchk := Lu (hu.chg K2a (Nat.le_refl _) (Nat.le_refl _))
  have hexc : ∃ cc,Al b0.general = cc := ⟨_,rfl⟩
  obtain ⟨cc,hc2⟩ := hexc
  rw [hc2] at hchk
  refine cl Kh hchk ?_
  rintro _ w2b ⟨rfl,k2b⟩
  have m1 := k2b.own m1 id
  have m2 := k2b.own m2 id
  have m3 := k2b.own m3 id
  have K2b := K2a.trans k2b
  cases cc with
  | false =>
   refine Dj (by decide) ?_
   refine st Aa m2 rfl (Nat.le_refl 5) rfl ?_
   intro w4 z4 k4 m4
   have m4 : Own w4 b2 29 [Ad,.int .i64 0,Ad,Ad,Ad] := m4
   refine ld Aa (v := .agg #[Ad,.int .i64 0,Ad,Ad,Ad]) (Own.all m4) (by rfl) ?_
   exact ⟨K2b.newS k4 fun j hj => by have : j = b2 := hj; have := k1.size; have := k2.size; omega,.inl ⟨by unfold Bx; rw [hc,hc2]; rfl,rfl⟩⟩
  | true =>
   refine Bs (by decide) ?_
   refine ld Aa (Own.at_ (xs := [.slice pa a.props.length pc]) (o := 0) m1 rfl) (by rfl) ?_
   refine ld Aa (Own.at_ (xs := [.slice pb b0.props.length pd]) (o := 0) m3 rfl) (by rfl) ?_
   have hsn := Sz (hv.props.chg K2b (fun _ _ _ h => h) (fun _ _ h => h)) (hu.props.chg K2b (fun _ _ _ h => h) (fun _ _ h => h)) hv.lp hu.lp
   by_cases hpp : a.props = b0.props
   · rw [decide_eq_true hpp] at hsn
     refine cl Jr hsn ?_
     rintro _ w2c ⟨rfl,k2c⟩
     have m1 := k2c.own m1 id
     have m2 := k2c.own m2 id
     have m3 := k2c.own m3 id
     have K2c := K2b.trans k2c
     have hG := Good.of hc
     have hG2 := Good.of hc2
     have hA0s : (0 : Int) ≤ a.states := hG.s0
     have hB0s : (0 : Int) ≤ b0.states := hG2.s0
     have hanx : ∃ an : Nat,a.states = an := ⟨a.states.toNat,by omega⟩
     obtain ⟨an,han'⟩ := hanx
     have hbnx : ∃ bn : Nat,b0.states = bn := ⟨b0.states.toNat,by omega⟩
     obtain ⟨bn,hbn'⟩ := hbnx
     have hnx : ∃ n,n = an * bn := ⟨_,rfl⟩
     obtain ⟨n,hn⟩ := hnx
     have hn36 : n ≤ 60 * 60 := by rw [hn]; exact Nat.mul_le_mul (by omega) (by omega)
     have hAe : ∀ e ∈ a.edges,0 ≤ e.frm ∧ e.frm < an ∧ 0 ≤ e.to ∧ e.to < an := fun e he => by
      have h1 := hG.edges e he
      have h2 : e.frm < a.states := h1.2.1
      have h3 : e.to < a.states := h1.2.2.2
      exact ⟨h1.1,by omega,h1.2.2.1,by omega⟩
     have hBe : ∀ e ∈ b0.edges,0 ≤ e.frm ∧ e.frm < bn ∧ 0 ≤ e.to ∧ e.to < bn := fun e he => by
      have h1 := hG2.edges e he
      have h2 : e.frm < b0.states := h1.2.1
      have h3 : e.to < b0.states := h1.2.2.2
      exact ⟨h1.1,by omega,h1.2.2.1,by omega⟩
     have hed : ∀ {W},Kp w W → RowE (fun _ cs x => cs = Edge.cells x) 4 0 w.heap.size W (.slice ea a.edges.length ec) a.edges := fun h => (hv.edges.chg h (fun _ _ _ h => h) (fun _ _ h => h)).mono (fun _ _ h => h.1) (Nat.le_refl _) (Nat.le_refl _)
     have hed2 : ∀ {W},Kp w W → RowE (fun _ cs x => cs = Edge.cells x) 4 0 w.heap.size W (.slice eb b0.edges.length ed) b0.edges := fun h => (hu.edges.chg h (fun _ _ _ h => h) (fun _ _ h => h)).mono (fun _ _ h => h.1) (Nat.le_refl _) (Nat.le_refl _)
     refine ld Aa (Own.at_ (xs := [.int .i64 a.states]) (o := 1) m1 rfl) (by rfl) ?_
     refine ld Aa (Own.at_ (xs := [.slice ea a.edges.length ec]) (o := 3) m1 rfl) (by rfl) ?_
     have hfrom := Nb (n := an) (hed K2c) K2c.size (by omega) (by omega) fun e he => ⟨(hAe e he).1,(hAe e he).2.1⟩
     rewrite [← han'] at hfrom
     refine cl I9 hfrom ?_
     rintro xV w3 ⟨k3,hX⟩
     have m1 := k3.own m1 id
     have m2 := k3.own m2 id
     have m3 := k3.own m3 id
     have K3 := K2c.trans k3
     refine ld Aa (Own.at_ (xs := [.int .i64 b0.states]) (o := 1) m3 rfl) (by rfl) ?_
     refine ld Aa (Own.at_ (xs := [.slice eb b0.edges.length ed]) (o := 3) m3 rfl) (by rfl) ?_
     have hfrom := Nb (n := bn) (hed2 K3) K3.size (by omega) (by omega) fun e he => ⟨(hBe e he).1,(hBe e he).2.1⟩
     rewrite [← hbn'] at hfrom
     refine cl I9 hfrom ?_
     rintro yV w4 ⟨k4,hY⟩
     have m1 := k4.own m1 id
     have m2 := k4.own m2 id
     have m3 := k4.own m3 id
     have K4 := K3.trans k4
     have hX := hX.chg k4
     refine ld Aa (v := .agg #[.slice pa a.props.length pc,.int .i64 a.states,.slice ia a.init.length ic,.slice ea a.edges.length ec,.slice sa a.final.length sc]) (Own.all m1) (by rfl) ?_
     refine cl Eu (Gf w4 pa ia ea sa _ pc _ ic _ ec _ sc a.states) ?_
     rintro _ w5g ⟨k5g,qg,hq1,hq2,hqm,rfl⟩
     have K5g := K4.trans k5g
     have hgg := (hv.chg K5g (Nat.le_refl _) K5g.size).general hqm
     have hgg := hgg.chg (Chg.refl _ w5g) (Nat.le_refl _) (show max w5g.heap.size (qg + 1) ≤ w5g.heap.size by omega)
     have hmem := I3 hgg hG han' (by show 1 < 1000000; decide)
     refine cl G0 hmem ?_
     rintro oneV w5 ⟨k5m,hOne⟩
     have k5 := k5g.trans k5m
     have hOne : BoolRows w4.heap.size w5.heap.size w5 oneV [B8 an a.final] := hOne.mono (fun _ _ ⟨u,h1,h2⟩ => ⟨u,h1,h2.mono (fun _ _ h => h) k5g.size (Nat.le_refl _)⟩) k5g.size (Nat.le_refl _)
     have m1 := k5.own m1 id
     have m2 := k5.own m2 id
     have m3 := k5.own m3 id
     have K5 := K4.trans k5
     have hX := hX.chg k5
     have hY := hY.chg k5
     refine ld Aa (v := .agg #[.slice pb b0.props.length pd,.int .i64 b0.states,.slice ib b0.init.length id',.slice eb b0.edges.length ed,.slice sb b0.final.length sd]) (Own.all m3) (by rfl) ?_
     refine cl Eu (Gf w5 pb ib eb sb _ pd _ id' _ ed _ sd b0.states) ?_
     rintro _ w6g ⟨k6g,qh,hq3,hq4,hqn,rfl⟩
     have K6g := K5.trans k6g
     have hgg := (hu.chg K6g (Nat.le_refl _) K6g.size).general hqn
     have hgg := hgg.chg (Chg.refl _ w6g) (Nat.le_refl _) (show max w6g.heap.size (qh + 1) ≤ w6g.heap.size by omega)
     have hmem := I3 hgg hG2 hbn' (by show 1 < 1000000; decide)
     refine cl G0 hmem ?_
     rintro twoV w5' ⟨k6m,hTwo⟩
     have k5' := k6g.trans k6m
     have hTwo : BoolRows w5.heap.size w5'.heap.size w5' twoV [B8 bn b0.final] := hTwo.mono (fun _ _ ⟨u,h1,h2⟩ => ⟨u,h1,h2.mono (fun _ _ h => h) k6g.size (Nat.le_refl _)⟩) k6g.size (Nat.le_refl _)
     have m1 := k5'.own m1 id
     have m2 := k5'.own m2 id
     have m3 := k5'.own m3 id
     have K5' := K5.trans k5'
     have hX := hX.chg k5'
     have hY := hY.chg k5'
     have hOne := hOne.chg k5'
     refine ld Aa (Own.at_ (xs := [.slice pa a.props.length pc]) (o := 0) m1 rfl) (by rfl) ?_
     have hnum := J0 (hv.props.chg K5' (fun _ _ _ h => h) (fun _ _ h => h)) (by have h8 : _ ≤ 8 := C2 hc; exact Nat.lt_of_le_of_lt h8 (by decide))
     refine cl H2 hnum ?_
     rintro _ w6 ⟨k6,b,m,vP,rfl,hb5,hm5,X6⟩
     have M1 := k6.own m1 id
     have M2 := k6.own m2 id
     have M3 := k6.own m3 id
     clear m1 m2 m3
     have K6 := K5'.trans k6
     have hX := hX.chg k6
     have hY := hY.chg k6
     have hOne := hOne.chg k6
     have hTwo := hTwo.chg k6
     have hB : ∃ B,B = w5'.heap.size := ⟨_,rfl⟩
     obtain ⟨B,hB⟩ := hB
     have hz5 : w3.heap.size ≤ w4.heap.size ∧ w4.heap.size ≤ w5.heap.size ∧ w5.heap.size ≤ B ∧ w.heap.size ≤ B ∧ b1 < B ∧ b2 < B ∧ b3 < B := by
      have h1 := k4.size; have h2 := k5.size; have h3 := k5'.size; have h4 := K5'.size; have h5 := k3.size; have h6 := k2a.size; have h7 := k2b.size; have h8 := k2c.size; omega
     rw [← hB] at X6 hb5 hm5
     have hK : ∀ {V},Chg (fun g => B ≤ g) w6 V → Kp w V := fun {V} hc => K6.newS hc fun g hg => by have : B ≤ g := hg; omega
     have hXV : ∀ {V},Chg (fun g => B ≤ g) w6 V → RowsE w2c.heap.size w3.heap.size V xV (B1 an a.edges) := fun {V} hc => hX.chgS hc fun g _ h2 hh => by have : B ≤ g := hh; omega
     have hYV : ∀ {V},Chg (fun g => B ≤ g) w6 V → RowsE w3.heap.size w4.heap.size V yV (B1 bn b0.edges) := fun {V} hc => hY.chgS hc fun g _ h2 hh => by have : B ≤ g := hh; omega
     have hOneV : ∀ {V},Chg (fun g => B ≤ g) w6 V → BoolRows w4.heap.size w5.heap.size V oneV [B8 an a.final] := fun {V} hc => hOne.chgS hc fun g _ h2 hh => by have : B ≤ g := hh; omega
     have hTwoV : ∀ {V},Chg (fun g => B ≤ g) w6 V → BoolRows w5.heap.size B V twoV [B8 bn b0.final] := fun {V} hc => by
      rw [hB]
      exact hTwo.chgS hc fun g _ h2 hh => by have : B ≤ g := hh; omega
     clear hX hY hOne hTwo hmem hfrom hnum hgg
     have hTB : ∀ {V vL vR vI vE vF L R A},NumX V B b m vL vR vP vI vE vF L R A → ∀ g,(g = b ∨ g = m ∨ some g = vL.ownBlock) → B ≤ g := fun {V vL vR vI vE vF L R A} hX g hg => by
      rcases hg with rfl | rfl | hg
      · exact hb5
      · exact hm5
      · exact Ah hX.rL hg.symm
     have hpA := (Bu hc).2
     have hpB := (Bu hc2).2
     have hpA : a.init.Pairwise (· < ·) := hpA
     have hpB : b0.init.Pairwise (· < ·) := hpB
     have hiA : ∀ s ∈ a.init,0 ≤ s ∧ s < an := fun s hs => by
      have h1 := hG.init s hs
      have h2 : s < a.states := h1.2
      exact ⟨h1.1,by omega⟩
     have hiB : ∀ s ∈ b0.init,0 ≤ s ∧ s < bn := fun s hs => by
      have h1 := hG2.init s hs
      have h2 : s < b0.states := h1.2
      exact ⟨h1.1,by omega⟩
     have hQok : ∀ (i k : Nat) (p : Int),a.init[i]? = some p → (Bq bn (a.init.take i) b0.init ++ (b0.init.take k).map fun q => p * bn + q).Nodup ∧ (∀ s ∈ Bq bn (a.init.take i) b0.init ++ (b0.init.take k).map fun q => p * bn + q,0 ≤ s ∧ s < n) := fun i k p hp => by
      have hil := (List.getElem?_eq_some_iff.1 hp).1
      have h1 : a.init.take (i + 1) = a.init.take i ++ [p] := by
       rw [List.take_succ_eq_append_getElem hil]
       rw [List.getElem?_eq_getElem hil] at hp
       injection hp with hp
       rw [hp]
      have h2 : (Bq bn (a.init.take i) b0.init ++ (b0.init.take k).map fun q => p * bn + q).Sublist (Bq bn (a.init.take (i + 1)) b0.init) := by
       rw [h1,J9]
       exact List.Sublist.append (List.Sublist.refl _) ((List.take_sublist _ _).map _)
      refine ⟨(Gz (hpA.sublist (List.take_sublist _ _)) hpB hiB).sublist h2,fun s hs => ?_⟩
      rw [hn]
      exact Fy (fun s hs => hiA s (List.mem_of_mem_take hs)) hiB s (h2.subset hs)
     have hlen : ∀ {Q : List Int},Q.Nodup → (∀ s ∈ Q,0 ≤ s ∧ s < n) → Q.length ≤ n := fun {Q} h1 h2 => by
      have h3 := A8 (l := Q) (r := (List.range n).map fun (i : Nat) => (i : Int)) h1 fun s hs' => by
       have := h2 s hs'
       exact List.mem_map.2 ⟨s.toNat,by rw [List.mem_range]; omega,by omega⟩
      simpa using h3
     refine loop Aa (σ := Nat × Value × Value) (fun t => [(2,pt b1 0),(3,pt b3 0),(4,pt b2 0),(6,xV),(7,yV),(8,oneV),(9,twoV),(10,pt b 0),(11,.int .i64 t.1)])
      (fun t V => t.1 ≤ a.init.length ∧ Chg (fun g => B ≤ g) w6 V ∧ NumX V B b m t.2.1 Ad vP t.2.2 Ad Ad ((A9 (Bq bn (a.init.take t.1) b0.init)).1.map (Ex bn)) [] { props := a.props,states := 0,init := (A9 (Bq bn (a.init.take t.1) b0.init)).2,edges := [],final := [] }) (fun t => a.init.length - t.1) (0,Ad,Ad)
      ⟨rfl,rfl,rfl,rfl,rfl,rfl,rfl,rfl,rfl,trivial⟩ ⟨Nat.zero_le _,Chg.refl _ _,by simpa [A9,Bq] using X6⟩ ?_
     rintro ⟨j,xL,xI⟩ ea7 w7 ⟨hj,c7,X7⟩
     simp only at hj X7
     have m17 := c7.own M1 fun hh => by have : B ≤ b1 := hh; omega
     refine ld Aa (Own.at_ (xs := [.slice ia a.init.length ic]) (o := 2) m17 rfl) (by rfl) ?_
     refine sp (fun hlt => ?_) (fun hge => ?_)
     · have hj' : j < a.init.length := by simp only at hlt; omega
       have hpx : ∃ p,p = a.init[j] := ⟨_,rfl⟩
       obtain ⟨p,hpd⟩ := hpx
       have hxp : a.init[j]? = some p := by rw [hpd]; simp
       have hpr := hiA p (List.mem_of_getElem? hxp)
       obtain ⟨q,o,hia,-,hqlt,cs,-,hrd,hcs⟩ := hir j p hxp
       subst hia hcs
       have hQ0 : Bq bn (a.init.take j) b0.init ++ (b0.init.take 0).map (fun q => p * bn + q) = Bq bn (a.init.take j) b0.init := by simp
       refine loop Aa (σ := Nat × Value × Value) (fun t => [(2,pt b1 0),(3,pt b3 0),(4,pt b2 0),(6,xV),(7,yV),(8,oneV),(9,twoV),(10,pt b 0),(11,.int .i64 j),(12,.int .i64 t.1)])
        (fun t V => t.1 ≤ b0.init.length ∧ Chg (fun g => B ≤ g) w6 V ∧ NumX V B b m t.2.1 Ad vP t.2.2 Ad Ad ((A9 (Bq bn (a.init.take j) b0.init ++ (b0.init.take t.1).map fun q => p * bn + q)).1.map (Ex bn)) [] { props := a.props,states := 0,init := (A9 (Bq bn (a.init.take j) b0.init ++ (b0.init.take t.1).map fun q => p * bn + q)).2,edges := [],final := [] }) (fun t => b0.init.length - t.1) (0,xL,xI)
        ⟨rfl,rfl,rfl,rfl,rfl,rfl,rfl,rfl,rfl,rfl,trivial⟩ ⟨Nat.zero_le _,c7,by simp only; rw [hQ0]; exact X7⟩ ?_
       clear X7 m17
       rintro ⟨k,xL,xI⟩ ea8 w7 ⟨hk,c7,X7⟩
       simp only at hk X7
       have m17 := c7.own M1 fun hh => by have : B ≤ b1 := hh; omega
       have m37 := c7.own M3 fun hh => by have : B ≤ b3 := hh; omega
       refine ld Aa (Own.at_ (xs := [.slice ib b0.init.length id']) (o := 2) m37 rfl) (by rfl) ?_
       refine sp (fun hlt2 => ?_) (fun hge2 => ?_)
       · have hk' : k < b0.init.length := by simp only at hlt2; omega
         have hqx : ∃ r,r = b0.init[k] := ⟨_,rfl⟩
         obtain ⟨r,hrd'⟩ := hqx
         have hxr : b0.init[k]? = some r := by rw [hrd']; simp
         have hrr := hiB r (List.mem_of_getElem? hxr)
         obtain ⟨q',o',hib,-,hqlt',cs',-,hrdr,hcs'⟩ := hjr k r hxr
         subst hib hcs'
         have hsx : ∃ s,s = p * bn + r := ⟨_,rfl⟩
         obtain ⟨s,hs⟩ := hsx
         have hQ1 := hQok j (k + 1) p hxp
         have hQs := hQok j k p hxp
         have hsnocQ : Bq bn (a.init.take j) b0.init ++ (b0.init.take (k + 1)).map (fun q => p * bn + q) = (Bq bn (a.init.take j) b0.init ++ (b0.init.take k).map fun q => p * bn + q) ++ [s] := by
          rw [List.take_succ_eq_append_getElem hk',List.map_append,← List.append_assoc,← hrd',hs]; rfl
         have hQx : ∃ Q,Q = Bq bn (a.init.take j) b0.init ++ (b0.init.take k).map fun q => p * bn + q := ⟨_,rfl⟩
         obtain ⟨Q,hQ⟩ := hQx
         rw [hsnocQ] at hQ1
         rw [← hQ] at X7 hQ1 hQs
         have hsr := hQ1.2 s (by simp)
         have hQl := hlen hQs.1 hQs.2
         have hsnoc : A9 (Bq bn (a.init.take j) b0.init ++ (b0.init.take (k + 1)).map fun q => p * bn + q) = Ry (A9 Q) s := by rw [hsnocQ,E4,← hQ]
         have hA0 : ∃ A0,A0 = A9 Q := ⟨_,rfl⟩
         obtain ⟨A0,hA0⟩ := hA0
         have hT1 : A0.1.length = Q.length := by rw [hA0,Bf hQs.1]; simp
         have hT2 : A0.2.length = Q.length := by rw [hA0,Bf hQs.1]; simp
         have hTn0 : A0.1.Nodup := by rw [hA0,Bf hQs.1]; exact Ce (fun a b h => by injection h) hQs.1
         rw [← hA0] at X7 hsnoc
         have htau : Ex bn (s,0) = (p,r,0) := by rw [hs]; exact Xl hrr
         have hTTx : ∃ TT : Nat → Prop,TT = fun g => g = b ∨ g = m ∨ some g = xL.ownBlock := ⟨_,rfl⟩
         obtain ⟨TT,hTT⟩ := hTTx
         have hTb : ∀ g,TT g → B ≤ g := fun g hg => hTB X7 g (by rw [hTT] at hg; exact hg)
         have hTl : ∀ g,TT g → g < w7.heap.size := fun g hg => by
          rw [hTT] at hg
          rcases hg with rfl | rfl | hg
          · exact X7.hdr.lt
          · exact X7.map.lt
          · exact (X7.rL.lt g hg.symm).2
         have hIl : ∀ g,xI.ownBlock = some g → g < w7.heap.size := fun g hg => (X7.o.rI.lt g hg).2
         have hTn : ∀ g,TT g → xI.ownBlock ≠ some g := fun g hg he => by
          have h1 := X7.mR (g := g) (.inr (.inr (.inl he)))
          rw [hTT] at hg
          rcases hg with hg | hg | hg
          · exact h1.2.1 hg
          · exact h1.1 hg
          · exact h1.2.2 hg.symm
         have hbT : TT b := by rw [hTT]; exact .inl rfl
         have hmT : TT m := by rw [hTT]; exact .inr (.inl rfl)
         have hbears := NAppR.bears (T := TT) (b := b) (w0 := w7) (v := xI) (k := Q.length * 1) (news := [.int .i64 (Aw A0.1 (s,0) : Nat)]) hIl hTl hTn hbT
         have hpre := Kv TT b w7 xI (Q.length * 1) [.int .i64 (Aw A0.1 (s,0) : Nat)]
         have hdrS : ∀ {W},NAppR TT b w7 xI (Q.length * 1) [.int .i64 (Aw A0.1 (s,0) : Nat)] w7 W → ∃ vL',Own W b 101 [vL',.map (some m),Ad,vP,.int .i64 0,xI,Ad,Ad] := fun {W} hS => hS.hdr _ _ X7.hdr
         have lowS : ∀ {W},NAppR TT b w7 xI (Q.length * 1) [.int .i64 (Aw A0.1 (s,0) : Nat)] w7 W → Chg (fun g => B ≤ g) w7 W := fun {W} hS => hS.c.chg.mono fun g hg => hg.elim (fun h => hTb g h) fun h => Ah X7.o.rI h.symm
         refine Gm Aa mixed 24 [6,7,8,9,10,11,12,13,14,15,16,17,18,0,1,2,3,4,5,19,20,21,22,23] (by kernel_rfl) (NAppR TT b w7 xI (Q.length * 1) [.int .i64 (Aw A0.1 (s,0) : Nat)]) hpre (fun W => W.heap.size = w7.heap.size ∧ Kp w7 W) 18 ⟨rfl,(Chg.refl _ _).drew⟩ ?_
         conv => whnf
         refine Fc hpre Aa rfl rfl (fun W h _ _ => Own.at_ (xs := [.slice (some ⟨q,o,none⟩) a.init.length ic]) (o := 2) ((lowS h).own m17 fun hh => by have : B ≤ b1 := hh; omega) rfl) (by rfl) fun _ => ?_
         conv => whnf
         refine ne ⟨by omega,by omega⟩ ?_
         conv => whnf
         refine Fc hpre Aa (v := .int .i64 p) rfl rfl (fun W h _ _ => by rw [Int.toNat_natCast]; exact (K6.newS (c7.trans (lowS h)) (fun g hg => by have : B ≤ g := hg; omega)).range hrd id) (by rfl) fun _ => ?_
         conv => whnf
         refine Fc hpre Aa rfl rfl (fun W h _ _ => Own.at_ (xs := [.slice (some ⟨q',o',none⟩) b0.init.length id']) (o := 2) ((lowS h).own m37 fun hh => by have : B ≤ b3 := hh; omega) rfl) (by rfl) fun _ => ?_
         conv => whnf
         refine ne ⟨by omega,by omega⟩ ?_
         conv => whnf
         refine Fc hpre Aa (v := .int .i64 r) rfl rfl (fun W h _ _ => by rw [Int.toNat_natCast]; exact (K6.newS (c7.trans (lowS h)) (fun g hg => by have : B ≤ g := hg; omega)).range hrdr id) (by rfl) fun _ => ?_
         conv => whnf
         refine Jp (τ := Value) (hne := ⟨undef⟩) (.int .i64 (Aw A0.1 (s,0) : Nat)) (fun v' W => NumC W B b m v' ((B7 A0.1 (s,0)).map (Ex bn)) [.map (some m),Ad,vP,.int .i64 0,xI,Ad,Ad] ∧ (∀ g,v'.ownBlock = some g → xL.ownBlock = some g ∨ w7.heap.size ≤ g) ∧ w7.heap.size < W.heap.size) rfl rfl rfl (fun v' W W' hFv hS => ?_) I8 (fun W hS _ hU => ?_) fun v' D hD => ?_
         · obtain ⟨f1,f2,f3⟩ := hFv
           exact ⟨f1.once hS.c f3 hbT hmT (fun g hg => (f2 g hg).imp (fun h => by rw [hTT]; exact .inr (.inr h.symm)) id) hTl hIl,f2,by have := hS.c.chg.size; omega⟩
         · obtain ⟨hU1,hU2⟩ := hU
           have hcall := Qa (X7.kp hU2) (p := Ex bn (s,0)) (Wn (n := n) (k := 1) ⟨hsr.1,hsr.2,Int.le_refl _,(show (0 : Int) < ((1 : Nat) : Int) by decide)⟩ (by omega) (by decide) (by omega)) (by rw [List.length_map]; omega)
           rw [E2 G8,Gi G8,htau] at hcall
           refine hcall.mono fun en W' hr => ?_
           cases en with
           | returned v =>
            obtain ⟨rfl,v',hX,hc',hg',hs'⟩ := hr
            refine ⟨rfl,⟨⟨hc'.mono fun g hg => .inl (by rw [hTT]; exact hg),fun g hg hl => .inl (hc'.block g hl fun hT => hTn g (by rw [hTT]; exact hT) hg),.inr (by omega)⟩,fun vL0 r0 ho => ⟨v',?_⟩⟩,v',⟨hX.hdr,hX.map,hX.rL⟩,fun g hg => (hg' g hg).imp id fun h => by omega,by omega⟩
            have h1 := hU2.own X7.hdr id
            rw [Of ho h1]
            exact hX.hdr
           | _ => exact hr.elim
         conv => whnf
         refine Fc hpre Aa rfl rfl (fun W h _ _ => by
          obtain ⟨vL',hh⟩ := hdrS h
          exact Own.at_ (xs := [xI]) (o := 5) hh rfl) (by rfl) fun _ => ?_
         conv => whnf
         refine ⟨fun W hS hDn hU => ?_,?_⟩
         · have := (hD W (hDn 18 (by kernel_rfl))).2.2
           omega
         refine Uh hpre rfl rfl rfl rfl rfl (by decide) (fun b o W W' hb ho hS => hbears.new W W' b o hS hb ho) (fun W hS => hbears.size _ _ hS) fun q2 D2 hD2 => ?_
         conv => whnf
         refine ⟨fun W hS hDn hU => ?_,?_⟩
         · have := (hD W (hDn 18 (by kernel_rfl))).2.2
           omega
         refine Un (m := 1) (news := [.int .i64 (Aw A0.1 (s,0) : Nat)]) Aa hbears rfl rfl rfl rfl rfl rfl rfl (by decide) (show w7.ownsRow B 3 1 xI Q.length _ from hT2 ▸ X7.o.rI) rfl (fun W hS hDn => Own.at_ (xs := [.int .i64 (Aw A0.1 (s,0) : Nat)]) (o := 0) (hD2 W (hDn 19 (by kernel_rfl))).1 rfl) rfl (by simp only [maxLen]; omega) (by show (_ + 1) * 8 ≤ _; omega) X7.base fun xI' D3 hD3 => ?_
         conv => whnf
         intro w11 hS11 hd11
         have hN11 := hD w11 (hd11 18)
         have hI11 := hD3 w11 (hd11 20)
         obtain ⟨nc11,hnew11,hsz11⟩ := hN11
         obtain ⟨rI11,hnewI⟩ := hI11
         have hfI := Ae rI11
         obtain ⟨ia',ic',hxi'⟩ := hfI
         subst hxi'
         refine st Aa nc11.hdr rfl (show 6 ≤ 8 by decide) rfl ?_
         intro w12 z12 c12 ob12
         have ob12 : Own w12 b 101 [v',.map (some m),Ad,vP,.int .i64 0,.slice ia' (Q.length + 1) ic',Ad,Ad] := ob12
         have hnd2 : (B7 A0.1 (s,0)).Nodup ∧ True := ⟨Ca hTn0,trivial⟩
         have hX12 := X7.ofI (hS11.c.chg.mono fun g hg => by rw [hTT] at hg; exact hg) nc11.map nc11.rL hnew11 (vI' := .slice ia' (Q.length + 1) ic') (I' := A0.2 ++ [(Aw A0.1 (s,0) : Int)]) (by
          rw [List.length_append,List.flatMap_append]
          show w11.ownsRow B 3 1 _ (A0.2.length + 1) _
          rw [hT2]
          exact rI11) hnewI c12 ob12 (Ce G8 hnd2.1) nc11.hdr
         have hfv := Ae hX12.rL
         obtain ⟨va,vc,rfl⟩ := hfv
         have hnl : (B7 A0.1 (s,0)).length ≤ A0.1.length + 1 := by unfold B7; split <;> simp
         refine ld Aa (Own.at_ (xs := [.slice va ((B7 A0.1 (s,0)).map (Ex bn)).length vc]) (o := 0) hX12.hdr rfl) (by rfl) ?_
         refine Bs (by rw [List.length_map]; omega) ?_
         have hib2 : b0.init.length < 4611686018427387904 := hu.li
         refine aw (by simp only; omega) (by simp only; omega) ?_
         refine again (k + 1,.slice va ((B7 A0.1 (s,0)).map (Ex bn)).length vc,.slice ia' (Q.length + 1) ic') ⟨rfl,rfl,rfl,rfl,rfl,rfl,rfl,rfl,rfl,rfl,trivial⟩ ⟨by simp only; omega,?_,?_⟩ (by simp only; omega)
         · exact (c7.trans (lowS hS11)).trans (c12.mono fun g hg => by rw [hg]; exact hb5)
         · simp only
           rw [hsnoc]
           exact hX12
       · have hke : k = b0.init.length := by simp only at hge2; omega
         subst hke
         have hQe : Bq bn (a.init.take j) b0.init ++ (b0.init.take b0.init.length).map (fun q => p * bn + q) = Bq bn (a.init.take (j + 1)) b0.init := by
          rw [List.take_succ_eq_append_getElem hj',J9,List.take_length,← hpd]
         rw [hQe] at X7
         have hia2 : a.init.length < 4611686018427387904 := hv.li
         refine aw (by omega) (by omega) ?_
         exact again (j + 1,xL,xI) ⟨rfl,rfl,rfl,rfl,rfl,rfl,rfl,rfl,rfl,trivial⟩ ⟨by simp only; omega,c7,X7⟩ (by simp only; omega)
     · have hje : j = a.init.length := by simp only at hge; omega
       subst hje
       rw [List.take_length] at X7
       have hIPx : ∃ IP,IP = Bq bn a.init b0.init := ⟨_,rfl⟩
       obtain ⟨IP,hIP⟩ := hIPx
       rw [← hIP] at X7
       have hndP : IP.Nodup := by rw [hIP]; exact Gz hpA hpB hiB
       have hmemP : ∀ s ∈ IP,0 ≤ s ∧ s < n := fun s hs => by rw [hn]; rw [hIP] at hs; exact Fy hiA hiB s hs
       have hL0x : ∃ L0,L0 = (A9 IP).1 := ⟨_,rfl⟩
       obtain ⟨L0,hL0⟩ := hL0x
       have hIx : ∃ I,I = (A9 IP).2 := ⟨_,rfl⟩
       obtain ⟨I,hIe⟩ := hIx
       rw [← hL0,← hIe] at X7
       have hok0 : DOk n 2 (L0,[],[]) := ⟨by
        show L0.Nodup
        rw [hL0,Bf hndP]
        exact Ce (fun a b h => by injection h) hndP,fun q hq => by
        have hq : q ∈ L0 := hq
        rw [hL0,Bf hndP] at hq
        obtain ⟨s,hs',rfl⟩ := List.mem_map.1 hq
        have := hmemP s hs'
        exact ⟨this.1,this.2,Int.le_refl _,by show (0 : Int) < ((2 : Nat) : Int); decide⟩⟩
       have hsetx : ∃ sets,sets = H7 (an * bn) bn a.final b0.final := ⟨_,rfl⟩
       obtain ⟨sets,hsets⟩ := hsetx
       have hs2 : sets.length = 2 := by rw [hsets]; rfl
       have hfrx : ∃ fr,fr = Tv bn a.edges b0.edges := ⟨_,rfl⟩
       obtain ⟨fr,hfr⟩ := hfrx
       have hto' : ∀ s,∀ e ∈ fr s,0 ≤ e.to ∧ e.to < n := fun s e he => by
        rw [hn]
        rw [hfr] at he
        exact Vt (fun e he => (hAe e he).2.2) (fun e he => (hBe e he).2.2) s e he
       have hM : ∀ s,(fr s).length ≤ 1000 * 1000 := fun s => by
        rw [hfr]
        exact Nat.le_trans (R1 _ _ _ _) (Nat.mul_le_mul hela helb)
       have hdg : Dq a b0 = Cf a.props IP sets fr (n * 2) := by
        unfold Dq
        rw [han',hbn',Int.toNat_natCast,Int.toNat_natCast,hIP,hsets,hfr,hn]
       have hbox : n * 2 < 65536 := by omega
       have hxI : ∃ vI,vI = xI := ⟨_,rfl⟩
       obtain ⟨vI,hvI⟩ := hxI
       rw [← hvI] at X7
       refine loop Aa (σ := Nat × Value × Value × Value × List Edge) (fun t => [(2,pt b1 0),(3,pt b3 0),(4,pt b2 0),(6,xV),(7,yV),(8,oneV),(9,twoV),(10,pt b 0),(13,.int .i64 t.1)])
        (fun t V => t.1 ≤ (A5 sets fr (L0,[],[]) t.1).1.length ∧ Chg (fun g => B ≤ g) w6 V ∧ NumX V B b m t.2.1 Ad vP vI t.2.2.1 t.2.2.2.1 ((A5 sets fr (L0,[],[]) t.1).1.map (Ex bn)) [] { props := a.props,states := if t.1 = 0 then 0 else ((A5 sets fr (L0,[],[]) t.1).1.length : Nat),init := I,edges := t.2.2.2.2,final := (A5 sets fr (L0,[],[]) t.1).2.2 } ∧
          Ref t.2.2.2.2 [] [] (A5 sets fr (L0,[],[]) t.1).2.1 t.1) (fun t => n * 2 - t.1) (0,xL,Ad,Ad,[])
        ⟨rfl,rfl,rfl,rfl,rfl,rfl,rfl,rfl,rfl,trivial⟩ ⟨Nat.zero_le _,c7,X7,Ref.zero⟩ ?_
       rintro ⟨i,vL,vE,vF,D⟩ eb wA ⟨hi1,cA,XA,hRef⟩
       simp only at hi1 XA hRef
       have hDok := O3 hs2 hto' hok0 i
       have hDl := Ff (sets := sets) (fr := fr) (L0 := L0) (m := 1000 * 1000) hM i
       have hLb := A6 hDok.nd hDok.box
       have hDx : ∃ DD,DD = A5 sets fr (L0,[],[]) i := ⟨_,rfl⟩
       obtain ⟨DD,hDi⟩ := hDx
       rw [← hDi] at hi1 XA hRef hDok hLb hDl
       obtain ⟨L,E,F⟩ := DD
       simp only at hi1 XA hRef hLb hDl
       have hDlen : D.length ≤ 7200 * (1000 * 1000) := by
        have hn : D.Nodup := hRef.d.imp fun {x y} hxy he => by subst he; rw [Gx] at hxy; cases hxy
        have h1 := A8 (l := D) (r := E) hn fun x hx => (hRef.dm x).1 hx
        exact Nat.le_trans (Nat.le_trans h1 hDl.1) (Nat.mul_le_mul (by omega) (Nat.le_refl _))
       have hFl : F.length ≤ i := hDl.2
       have hfN := Ae XA.rL
       obtain ⟨na,nc,rfl⟩ := hfN
       have hLm : (L.map (Ex bn)).length = L.length := List.length_map _
       refine ld Aa (Own.at_ (xs := [.slice na (L.map (Ex bn)).length nc]) (o := 0) XA.hdr rfl) (by rfl) ?_
       refine sp (fun hlt => ?_) (fun hge => ?_)
       · have hiL : i < L.length := by simp only at hlt; omega
         have hxi : L[i]? = some L[i] := by simp
         have hbxi := hDok.box L[i] (List.getElem_mem hiL)
         have hppx : ∃ pp,pp = L[i] := ⟨_,rfl⟩
         obtain ⟨pp,hpp⟩ := hppx
         rw [← hpp] at hxi hbxi
         obtain ⟨pS,pW⟩ := pp
         obtain ⟨q1,q2,q3,q4⟩ := hbxi
         simp only at q1 q2 q3 q4
         have hpsx : ∃ ps : Nat,pS = ps := ⟨pS.toNat,by omega⟩
         obtain ⟨ps,rfl⟩ := hpsx
         have hpwx : ∃ pw : Nat,pW = pw := ⟨pW.toNat,by omega⟩
         obtain ⟨pw,rfl⟩ := hpwx
         have hpsn : ps < an * bn := by omega
         have hbn0 : 0 < bn := by
          rcases Nat.eq_zero_or_pos bn with h0 | h0
          · rw [h0,Nat.mul_zero] at hpsn; omega
          · exact h0
         have hPx : ∃ P,P = ps / bn := ⟨_,rfl⟩
         obtain ⟨P,hP⟩ := hPx
         have hQx : ∃ Qm,Qm = ps % bn := ⟨_,rfl⟩
         obtain ⟨Qm,hQm⟩ := hQx
         have hPn : P < an := by rw [hP]; exact Nat.div_lt_of_lt_mul (by rw [Nat.mul_comm]; exact hpsn)
         have hQn : Qm < bn := by rw [hQm]; exact Nat.mod_lt _ hbn0
         have hxT : (L.map (Ex bn))[i]? = some (((P : Nat) : Int),((Qm : Nat) : Int),((pw : Nat) : Int)) := by
          rw [List.getElem?_map,hxi,hP,hQm]; rfl
         have hrowN := Av (f := Eg) (fun _ => rfl) XA.rL (by decide)
         obtain ⟨_,_,e1',-,hrN⟩ := hrowN
         injection e1' with e1' _ e2'
         subst e1' e2'
         obtain ⟨qb,qo,rfl,-,-,cs0,-,hrd0,rfl⟩ := hrN i _ hxT
         refine ld Aa (Own.at_ (xs := [.slice (some ⟨qb,qo,none⟩) (L.map (Ex bn)).length nc]) (o := 0) XA.hdr rfl) (by rfl) ?_
         refine ne ⟨Int.natCast_nonneg _,Int.ofNat_lt.2 (by rw [hLm]; exact hiL)⟩ ?_
         refine ld Aa (v := H9 ((P : Nat),(Qm : Nat),(pw : Nat))) (by rw [Int.toNat_natCast]; exact hrd0) (by rfl) ?_
         refine nd fun b9 wB eB zB kB mp0 => ?_
         refine st Aa (cs := [.int .i64 0,.int .i64 0,.int .i64 0]) mp0 rfl (Nat.le_refl 3) rfl ?_
         intro wC zC kC mp1
         have mp : Own wC b9 104 [.int .i64 (P : Nat),.int .i64 (Qm : Nat),.int .i64 (pw : Nat)] := mp1
         clear mp0 mp1
         have kAC : Kp wA wC := kB.new eB kC
         have cC := cA.newT kAC fun _ hf => hf.elim
         have XC := XA.kp kAC
         have hb9 : ∀ g,(Value.slice (some ⟨qb,qo,none⟩) (L.map (Ex bn)).length nc).ownBlock = some g → g ≠ b9 := fun g hg he => by have := (XA.rL.lt g hg).2; omega
         have hvNx : ∃ vN,vN = Value.slice (some ⟨qb,qo,none⟩) (L.map (Ex bn)).length nc := ⟨_,rfl⟩
         obtain ⟨vN,hvN⟩ := hvNx
         rw [← hvN] at XC hb9
         clear XA hrN hrd0
         refine ld Aa (Own.at_ (xs := [.int .i64 (pw : Nat)]) (o := 2) mp rfl) (by rfl) ?_
         obtain ⟨oa,oc,rfl,-,hor⟩ := hOneV (Chg.refl (fun g => B ≤ g) w6)
         obtain ⟨ob,oo,rfl,-,hobB,ocs,-,hor0,ou,rfl,hou⟩ := hor 0 _ rfl
         obtain ⟨ja,jc,rfl,-,hjr1⟩ := hou
         obtain ⟨jb,jo,rfl,-,hjbB,jcs,-,hjb0,rfl⟩ := hjr1 P (decide ((P : Int) ∈ a.final)) (Hg hPn)
         rw [D8] at hor0
         obtain ⟨ta,tc,rfl,-,htr⟩ := hTwoV (Chg.refl (fun g => B ≤ g) w6)
         obtain ⟨tb,to,rfl,-,htbB,tcs,-,htr0,tu,rfl,htu⟩ := htr 0 _ rfl
         obtain ⟨ua,uc,rfl,-,hur1⟩ := htu
         obtain ⟨ub,uo,rfl,-,hubB,ucs,-,hub0,rfl⟩ := hur1 Qm (decide ((Qm : Int) ∈ b0.final)) (Hg hQn)
         rw [D8] at htr0
         have hlxx : ∃ lx,lx = Aj a.edges ((P : Nat) : Int) := ⟨_,rfl⟩
         obtain ⟨lx,hlx⟩ := hlxx
         have hlyx : ∃ ly,ly = Aj b0.edges ((Qm : Nat) : Int) := ⟨_,rfl⟩
         obtain ⟨ly,hly⟩ := hlyx
         have hrsx : (B1 an a.edges)[P]? = some lx := by unfold B1; rw [List.getElem?_map,List.getElem?_range hPn,hlx]; rfl
         have hrsy : (B1 bn b0.edges)[Qm]? = some ly := by unfold B1; rw [List.getElem?_map,List.getElem?_range hQn,hly]; rfl
         have hrlx : (B1 an a.edges).length = an := by unfold B1; simp
         have hrly : (B1 bn b0.edges).length = bn := by unfold B1; simp
         obtain ⟨xa,xc,rfl,-,hxr⟩ := hXV (Chg.refl (fun g => B ≤ g) w6)
         obtain ⟨xb,xo,rfl,-,hxbB,xcs,-,hxr0,xu,rfl,hxu⟩ := hxr P lx hrsx
         obtain ⟨ya,yc,rfl,-,hyr⟩ := hYV (Chg.refl (fun g => B ≤ g) w6)
         obtain ⟨yb,yo,rfl,-,hybB,ycs,-,hyr0,yu,rfl,hyu⟩ := hyr Qm ly hrsy
         have hlxl : lx.length ≤ 1000 := by rw [hlx]; exact Nat.le_trans (List.length_filter_le _ _) hela
         have hlyl : ly.length ≤ 1000 := by rw [hly]; exact Nat.le_trans (List.length_filter_le _ _) helb
         have Rd : ∀ {V : World} {g o : Nat} {cs : List Value},Chg (fun g => B ≤ g) w6 V → g < B → w6.rangeAt g o cs → V.rangeAt g o cs := fun hc hg hr => hc.range hr (by intro hh; exact absurd hh (Nat.not_le.2 hg))
         have hww : ∀ {Wl},Ways lx ly lx.length 0 Wl → Wl.map (Ye ps bn) = fr (ps : Int) := fun {Wl} h => by
          rw [hfr]
          refine Y6 (fun e he => (hBe e he).2.2) (fun e he => ?_) (fun e he => ?_) (by rw [← hP,← hQm,← hlx,← hly]; exact h)
          · exact O4 hc e he
          · exact O4 hc2 e he
         have hfin0 : ∀ t : Bool,Fd sets ((ps : Nat),(pw : Nat)) = t → pw = 0 → F ++ (if B9 sets ((ps : Nat),(pw : Nat)) = true then [(i : Int)] else []) = F := fun t _ hpw => by
          have : B9 sets ((ps : Nat),(pw : Nat)) = false := by
           unfold B9
           refine decide_eq_false ?_
           rintro (h2 | ⟨h2,-⟩)
           · omega
           · have h2 : ((pw : Nat) : Int) + 1 = _ := h2
             omega
          rw [this]; simp
         have hub1 := hub0
         have hEx : ∃ E0 : Prop,E0 ↔ F ++ (if B9 sets ((ps : Nat),((pw : Nat) : Int)) = true then [(i : Int)] else []) = F := ⟨_,Iff.rfl⟩
         obtain ⟨E0,hE0⟩ := hEx
         have hEx : ∃ EE : Prop,EE ↔ (decide ((Qm : Int) ∈ b0.final) = true ∧ F ++ (if B9 sets ((ps : Nat),((pw : Nat) : Int)) = true then [(i : Int)] else []) = F ++ [(i : Int)]) ∨ (decide ((Qm : Int) ∈ b0.final) = false ∧ F ++ (if B9 sets ((ps : Nat),((pw : Nat) : Int)) = true then [(i : Int)] else []) = F) := ⟨_,Iff.rfl⟩
         obtain ⟨EE,hEE⟩ := hEx
         rcases (show pw = 0 ∨ pw = 1 by omega) with hpw | hpw
         focus
          have hhas : Fd sets ((ps : Nat),((pw : Nat) : Int)) = decide ((P : Int) ∈ a.final) := by
           rw [hsets,hP,hpw]
           exact Ze hpsn
          cases hmb : decide ((P : Int) ∈ a.final)
          focus
           rw [hmb] at hjb0 hhas
           have hdd : (((pw : Nat) : Int) : Int) = Be sets ((ps : Nat),((pw : Nat) : Int)) := by
            unfold Be
            rw [if_neg (by rw [hhas]; simp)]
           refine Ax Aa mixed 26 (by kernel_rfl) (fun _ => False) ?_
           conv => whnf
           refine A7 Aa (v := .int .i64 ((pw : Nat) : Int)) rfl rfl (fun W hW _ => Own.at_ (xs := [.int .i64 ((pw : Nat) : Int)]) (o := 2) (hW.own mp id) rfl) (by rfl) fun _ => ?_
           conv => whnf
           refine Dj (by omega) ?_
           conv => whnf
           refine ne ⟨by decide,by show (0 : Int) < ((1 : Nat) : Int); decide⟩ ?_
           conv => whnf
           refine A7 Aa (v := .slice (some ⟨jb,jo,none⟩) an jc) rfl rfl (fun W hW _ => Rd (cC.newT hW fun _ hf => hf.elim) (by omega) hor0) (by rfl) fun _ => ?_
           conv => whnf
           refine A7 Aa (v := .int .i64 (P : Nat)) rfl rfl (fun W hW _ => Own.at_ (xs := [.int .i64 (P : Nat)]) (o := 0) (hW.own mp id) rfl) (by rfl) fun _ => ?_
           conv => whnf
           refine ne ⟨by omega,by omega⟩ ?_
           conv => whnf
           refine A7 Aa (v := .bool false) rfl rfl (fun W hW _ => by rw [Int.toNat_natCast]; exact Rd (cC.newT hW fun _ hf => hf.elim) (by omega) hjb0) (by rfl) fun _ => ?_
           conv => whnf
           refine A7 Aa (v := .int .i64 ((pw : Nat) : Int)) rfl rfl (fun W hW _ => Own.at_ (xs := [.int .i64 ((pw : Nat) : Int)]) (o := 2) (hW.own mp id) rfl) (by rfl) fun _ => ?_
           conv => whnf
           refine Bs (by omega) ?_
           conv => whnf
           intro wZ kZ _
           have XZ := XC.kp kZ
           have mpZ := kZ.own mp id
           have cZ := cC.newT kZ fun _ hf => hf.elim
           have hend : (pw = 0 ∧ E0) ∨ (pw = 1 ∧ EE) := .inl ⟨hpw,hE0.2 (hfin0 false hhas hpw)⟩
           have hdx : ∃ d : Int,(((pw : Nat) : Int) : Int) = d := ⟨_,rfl⟩
           obtain ⟨d,hDd⟩ := hdx
           have hdd := hDd.symm.trans hdd
          rotate_right
          focus
           rw [hmb] at hjb0 hhas
           have hdd : (1 : Int) = Be sets ((ps : Nat),((pw : Nat) : Int)) := by
            unfold Be
            rw [if_pos ⟨by rw [hs2]; decide,hhas⟩,hs2]
            show (1 : Int) = ((((((pw : Nat) : Int)).toNat + 1) % 2 : Nat) : Int)
            omega
           refine Ax Aa mixed 26 (by kernel_rfl) (fun _ => False) ?_
           conv => whnf
           refine A7 Aa (v := .int .i64 ((pw : Nat) : Int)) rfl rfl (fun W hW _ => Own.at_ (xs := [.int .i64 ((pw : Nat) : Int)]) (o := 2) (hW.own mp id) rfl) (by rfl) fun _ => ?_
           conv => whnf
           refine Dj (by omega) ?_
           conv => whnf
           refine ne ⟨by decide,by show (0 : Int) < ((1 : Nat) : Int); decide⟩ ?_
           conv => whnf
           refine A7 Aa (v := .slice (some ⟨jb,jo,none⟩) an jc) rfl rfl (fun W hW _ => Rd (cC.newT hW fun _ hf => hf.elim) (by omega) hor0) (by rfl) fun _ => ?_
           conv => whnf
           refine A7 Aa (v := .int .i64 (P : Nat)) rfl rfl (fun W hW _ => Own.at_ (xs := [.int .i64 (P : Nat)]) (o := 0) (hW.own mp id) rfl) (by rfl) fun _ => ?_
           conv => whnf
           refine ne ⟨by omega,by omega⟩ ?_
           conv => whnf
           refine A7 Aa (v := .bool true) rfl rfl (fun W hW _ => by rw [Int.toNat_natCast]; exact Rd (cC.newT hW fun _ hf => hf.elim) (by omega) hjb0) (by rfl) fun _ => ?_
           conv => whnf
           intro wZ kZ _
           have XZ := XC.kp kZ
           have mpZ := kZ.own mp id
           have cZ := cC.newT kZ fun _ hf => hf.elim
           refine ld Aa (Own.at_ (xs := [.int .i64 ((pw : Nat) : Int)]) (o := 2) mpZ rfl) (by rfl) ?_
           refine C3 (show _ = (1 : Int) by rw [hpw]; decide) ?_
           have hend : (pw = 0 ∧ E0) ∨ (pw = 1 ∧ EE) := .inl ⟨hpw,hE0.2 (hfin0 true hhas hpw)⟩
           have hdx : ∃ d : Int,(1 : Int) = d := ⟨_,rfl⟩
           obtain ⟨d,hDd⟩ := hdx
           have hdd := hDd.symm.trans hdd
         rotate_right
         focus
          have hhas : Fd sets ((ps : Nat),((pw : Nat) : Int)) = decide ((Qm : Int) ∈ b0.final) := by
           rw [hsets,hQm,hpw]
           exact Zd hpsn
          cases hmb : decide ((Qm : Int) ∈ b0.final)
          focus
           rw [hmb] at hub0 hhas
           have hdd : (((pw : Nat) : Int) : Int) = Be sets ((ps : Nat),((pw : Nat) : Int)) := by
            unfold Be
            rw [if_neg (by rw [hhas]; simp)]
           refine Ax Aa mixed 26 (by kernel_rfl) (fun _ => False) ?_
           conv => whnf
           refine A7 Aa (v := .int .i64 ((pw : Nat) : Int)) rfl rfl (fun W hW _ => Own.at_ (xs := [.int .i64 ((pw : Nat) : Int)]) (o := 2) (hW.own mp id) rfl) (by rfl) fun _ => ?_
           conv => whnf
           refine Bs (by omega) ?_
           conv => whnf
           refine A7 Aa (v := .int .i64 ((pw : Nat) : Int)) rfl rfl (fun W hW _ => Own.at_ (xs := [.int .i64 ((pw : Nat) : Int)]) (o := 2) (hW.own mp id) rfl) (by rfl) fun _ => ?_
           conv => whnf
           refine Dj (by omega) ?_
           conv => whnf
           refine ne ⟨by decide,by show (0 : Int) < ((1 : Nat) : Int); decide⟩ ?_
           conv => whnf
           refine A7 Aa (v := .slice (some ⟨ub,uo,none⟩) bn uc) rfl rfl (fun W hW _ => Rd (cC.newT hW fun _ hf => hf.elim) (by omega) htr0) (by rfl) fun _ => ?_
           conv => whnf
           refine A7 Aa (v := .int .i64 (Qm : Nat)) rfl rfl (fun W hW _ => Own.at_ (xs := [.int .i64 (Qm : Nat)]) (o := 1) (hW.own mp id) rfl) (by rfl) fun _ => ?_
           conv => whnf
           refine ne ⟨by omega,by omega⟩ ?_
           conv => whnf
           refine A7 Aa (v := .bool false) rfl rfl (fun W hW _ => by rw [Int.toNat_natCast]; exact Rd (cC.newT hW fun _ hf => hf.elim) (by omega) hub0) (by rfl) fun _ => ?_
           conv => whnf
           intro wZ kZ _
           have XZ := XC.kp kZ
           have mpZ := kZ.own mp id
           have cZ := cC.newT kZ fun _ hf => hf.elim
           have hfin : F ++ (if B9 sets ((ps : Nat),((pw : Nat) : Int)) = true then [(i : Int)] else []) = F := by
            have : B9 sets ((ps : Nat),((pw : Nat) : Int)) = false := by
             unfold B9
             refine decide_eq_false ?_
             rintro (h2 | ⟨-,h2⟩)
             · omega
             · rw [hhas] at h2; cases h2
            rw [this]; simp
           have hend : (pw = 0 ∧ E0) ∨ (pw = 1 ∧ EE) := .inr ⟨hpw,(hEE.2 (.inr ⟨hmb,hfin⟩))⟩
           have hdx : ∃ d : Int,(((pw : Nat) : Int) : Int) = d := ⟨_,rfl⟩
           obtain ⟨d,hDd⟩ := hdx
           have hdd := hDd.symm.trans hdd
          rotate_right
          focus
           rw [hmb] at hub0 hhas
           have hdd : (0 : Int) = Be sets ((ps : Nat),((pw : Nat) : Int)) := by
            unfold Be
            rw [if_pos ⟨by rw [hs2]; decide,hhas⟩,hs2]
            show (0 : Int) = ((((((pw : Nat) : Int)).toNat + 1) % 2 : Nat) : Int)
            omega
           refine Ax Aa mixed 26 (by kernel_rfl) (fun _ => False) ?_
           conv => whnf
           refine A7 Aa (v := .int .i64 ((pw : Nat) : Int)) rfl rfl (fun W hW _ => Own.at_ (xs := [.int .i64 ((pw : Nat) : Int)]) (o := 2) (hW.own mp id) rfl) (by rfl) fun _ => ?_
           conv => whnf
           refine Bs (by omega) ?_
           conv => whnf
           refine A7 Aa (v := .int .i64 ((pw : Nat) : Int)) rfl rfl (fun W hW _ => Own.at_ (xs := [.int .i64 ((pw : Nat) : Int)]) (o := 2) (hW.own mp id) rfl) (by rfl) fun _ => ?_
           conv => whnf
           refine Dj (by omega) ?_
           conv => whnf
           refine ne ⟨by decide,by show (0 : Int) < ((1 : Nat) : Int); decide⟩ ?_
           conv => whnf
           refine A7 Aa (v := .slice (some ⟨ub,uo,none⟩) bn uc) rfl rfl (fun W hW _ => Rd (cC.newT hW fun _ hf => hf.elim) (by omega) htr0) (by rfl) fun _ => ?_
           conv => whnf
           refine A7 Aa (v := .int .i64 (Qm : Nat)) rfl rfl (fun W hW _ => Own.at_ (xs := [.int .i64 (Qm : Nat)]) (o := 1) (hW.own mp id) rfl) (by rfl) fun _ => ?_
           conv => whnf
           refine ne ⟨by omega,by omega⟩ ?_
           conv => whnf
           refine A7 Aa (v := .bool true) rfl rfl (fun W hW _ => by rw [Int.toNat_natCast]; exact Rd (cC.newT hW fun _ hf => hf.elim) (by omega) hub0) (by rfl) fun _ => ?_
           conv => whnf
           intro wZ kZ _
           have XZ := XC.kp kZ
           have mpZ := kZ.own mp id
           have cZ := cC.newT kZ fun _ hf => hf.elim
           refine ld Aa (Own.at_ (xs := [.int .i64 ((pw : Nat) : Int)]) (o := 2) mpZ rfl) (by rfl) ?_
           refine C3 (show _ = (0 : Int) by rw [hpw]; decide) ?_
           have hfin : F ++ (if B9 sets ((ps : Nat),((pw : Nat) : Int)) = true then [(i : Int)] else []) = F ++ [(i : Int)] := by
            rw [if_pos]
            unfold B9
            exact decide_eq_true (.inr ⟨by rw [hs2,hpw]; rfl,hhas⟩)
           have hend : (pw = 0 ∧ E0) ∨ (pw = 1 ∧ EE) := .inr ⟨hpw,(hEE.2 (.inl ⟨hmb,hfin⟩))⟩
           have hdx : ∃ d : Int,(0 : Int) = d := ⟨_,rfl⟩
           obtain ⟨d,hDd⟩ := hdx
           have hdd := hDd.symm.trans hdd
         all_goals
          have hdr : (0 : Int) ≤ d ∧ (d : Int) < ((2 : Nat) : Int) := by omega
          refine Ax Aa mixed 12 (by kernel_rfl) (fun _ => False) ?_
          conv => whnf
          refine A7 Aa (v := .int .i64 (P : Nat)) rfl rfl (fun W hW _ => Own.at_ (xs := [.int .i64 (P : Nat)]) (o := 0) (hW.own mpZ id) rfl) (by rfl) fun _ => ?_
          conv => whnf
          refine ne ⟨by omega,by omega⟩ ?_
          conv => whnf
          refine A7 Aa (v := xu) rfl rfl (fun W hW _ => by rw [Int.toNat_natCast]; exact Rd (cZ.newT hW fun _ hf => hf.elim) (by omega) hxr0) (by rfl) fun _ => ?_
          conv => whnf
          refine A7 Aa (v := .int .i64 (Qm : Nat)) rfl rfl (fun W hW _ => Own.at_ (xs := [.int .i64 (Qm : Nat)]) (o := 1) (hW.own mpZ id) rfl) (by rfl) fun _ => ?_
          conv => whnf
          refine ne ⟨by omega,by omega⟩ ?_
          conv => whnf
          refine A7 Aa (v := yu) rfl rfl (fun W hW _ => by rw [Int.toNat_natCast]; exact Rd (cZ.newT hW fun _ hf => hf.elim) (by omega) hyr0) (by rfl) fun _ => ?_
          conv => whnf
          refine AgJ (fun v W => ∃ Wl,Ways lx ly lx.length 0 Wl ∧ ∃ hi,hi ≤ W.heap.size ∧ RowE (fun _ cs x => cs = Edge.cells x) 4 wZ.heap.size hi W v Wl) rfl rfl rfl (fun v W W' hF hS => ?_) Yk (fun W hW _ => ?_) fun v Dw hD => ?_
          · obtain ⟨Wl,h1,hi,h2,h3⟩ := hF
            exact ⟨Wl,h1,hi,Nat.le_trans h2 hS.size,h3.chg hS (fun _ _ _ h => h) (fun _ _ h => h)⟩
          · have cW := cZ.newT hW fun _ hf => hf.elim
            have hc1 := AaO (hxu.chg cW (fun g _ h2 hh => by have : B ≤ g := hh; omega) (fun _ _ h => h)) (hyu.chg cW (fun g _ h2 hh => by have : B ≤ g := hh; omega) (fun _ _ h => h)) hlxl hlyl
            refine hc1.mono fun en W' hr => ?_
            cases en with
            | returned v =>
             obtain ⟨k,Wl,h1,h2⟩ := hr
             exact ⟨k,Wl,h1,_,Nat.le_refl _,h2.mono (fun _ _ h => h) hW.size (Nat.le_refl _)⟩
            | _ => exact hr.elim
          conv => whnf
          intro wJ kJ hdJ
          have hWJ := hD wJ (hdJ 10)
          obtain ⟨Wl,hWl,hiW,hiWz,hrowW⟩ := hWJ
          have cJ := cZ.newT kJ fun _ hf => hf.elim
          have XJ := XZ.kp kJ
          have mpJ := kJ.own mpZ id
          obtain ⟨la,lc,rfl,-⟩ := id hrowW
          have hlW := hww hWl
          have hWll : Wl.length ≤ 1000 * 1000 := Nat.le_trans hWl.len (Nat.mul_le_mul hlxl hlyl)
          have hl'x : ∃ l,l = fr ((ps : Nat) : Int) := ⟨_,rfl⟩
          obtain ⟨l,hl⟩ := hl'x
          rw [← hl] at hlW
          have hlto : ∀ e ∈ l,0 ≤ e.to ∧ e.to < n := by rw [hl]; exact hto' _
          have hll : l.length = Wl.length := by rw [← hlW,List.length_map]
          have hWto : ∀ z ∈ Wl,0 ≤ z.to ∧ z.to < bn := fun z hz => by
           obtain ⟨a1,b1',d1,e1,-,-,h3,-,rfl⟩ := (hWl.mem z).1 hz
           rw [hly] at h3
           exact (hBe e1 (List.mem_filter.1 (List.mem_of_getElem? h3)).1).2.2
          have hzL : ∀ g,vN.ownBlock = some g → g < wZ.heap.size := fun g hg => (XZ.rL.lt g hg).2
          have hzb : b < wZ.heap.size ∧ m < wZ.heap.size := ⟨XZ.hdr.lt,XZ.map.lt⟩
          refine loop Aa (σ := Nat × Value × Value × List Edge) (fun t => [(2,pt b1 0),(3,pt b3 0),(4,pt b2 0),(6,.slice (some ⟨xb,xo,none⟩) (B1 an a.edges).length xc),(7,.slice (some ⟨yb,yo,none⟩) (B1 bn b0.edges).length yc),(8,.slice (some ⟨ob,oo,none⟩) [B8 an a.final].length oc),(9,.slice (some ⟨tb,to,none⟩) [B8 bn b0.final].length tc),(10,pt b 0),(13,.int .i64 i),(14,pt b9 0),(15,.int .i64 d),(16,.slice la Wl.length lc),(17,.int .i64 t.1)])
           (fun t V => t.1 ≤ Wl.length ∧ Chg (fun g => B ≤ g) w6 V ∧ NumX V B b m t.2.1 t.2.2.1 vP vI vE vF ((Ba i d (L,[]) (l.take t.1)).1.map (Ex bn)) t.2.2.2 { props := a.props,states := if i = 0 then 0 else (L.length : Nat),init := I,edges := D,final := F } ∧
             Ref D t.2.2.2 (Ba i d (L,[]) (l.take t.1)).2 E i ∧ Own V b9 104 [.int .i64 (P : Nat),.int .i64 (Qm : Nat),.int .i64 (pw : Nat)] ∧ t.2.1.ownBlock ≠ some b9 ∧ t.2.2.2.length ≤ t.1 ∧
             RowE (fun _ cs x => cs = Edge.cells x) 4 wZ.heap.size hiW V (.slice la Wl.length lc) Wl ∧ hiW ≤ V.heap.size ∧ (∀ g,t.2.1.ownBlock = some g → g < wZ.heap.size ∨ hiW ≤ g) ∧ (∀ g,t.2.2.1.ownBlock = some g → g < wZ.heap.size ∨ hiW ≤ g)) (fun t => Wl.length - t.1) (0,vN,Ad,[])
           ⟨rfl,rfl,rfl,rfl,rfl,rfl,rfl,rfl,rfl,rfl,congrArg (Value.int .i64) hDd,rfl,rfl,trivial⟩ ⟨Nat.zero_le _,cJ,XJ,hRef,mpJ,fun hh => hb9 b9 hh rfl,Nat.le_refl _,hrowW,hiWz,fun g hg => .inl (hzL g hg),fun g hg => by cases hg⟩ ?_
          rintro ⟨k,vL,vR,R⟩ ec' wE ⟨hk,cE,XE,hRefE,mpE,hb9E,hRl,hrowE,hiWE,hsL,hsR⟩
          simp only at hk XE hRefE hb9E hRl hsL hsR
          refine sp (fun hlt2 => ?_) (fun hge2 => ?_)
          · have hk' : k < Wl.length := by simp only at hlt2; omega
            have hzx : ∃ Z,Z = Wl[k] := ⟨_,rfl⟩
            obtain ⟨Z,hZd⟩ := hzx
            have hxZ : Wl[k]? = some Z := by rw [hZd]; simp
            have hZto := hWto Z (List.mem_of_getElem? hxZ)
            have hex : ∃ e,e = Ye ps bn Z := ⟨_,rfl⟩
            obtain ⟨e,hed'⟩ := hex
            have hxe : l[k]? = some e := by rw [← hlW,List.getElem?_map,hxZ,hed']; rfl
            have het := hlto e (List.mem_of_getElem? hxe)
            have hrowE0 := hrowE
            obtain ⟨_,_,e9,-,hrE⟩ := hrowE
            injection e9 with e9 _ e10
            subst e9 e10
            obtain ⟨lb,lo2,rfl,hlbz,hlbh,cse,-,hrde,rfl⟩ := hrE k Z hxZ
            have hZr : ∀ {S : Nat → Prop} {V},Chg S wE V → ¬ S lb → ∀ (j : Nat) (v : Value),Z.cells[j]? = some v → V.rangeAt lb (lo2 + ((k : Nat) : Int).toNat * 4 + j) [v] := fun hS hn j v hv => by
             rw [Int.toNat_natCast]
             exact Dz (hS.range hrde hn) hv
            refine Ax Aa mixed 13 (by kernel_rfl) (fun _ => False) ?_
            conv => whnf
            refine ne ⟨by omega,by omega⟩ ?_
            conv => whnf
            refine A7 Aa rfl rfl (fun W hW _ => hZr hW id 0 (.int .i64 Z.frm) rfl) (by rfl) fun _ => ?_
            conv => whnf
            refine ne ⟨by omega,by omega⟩ ?_
            conv => whnf
            refine A7 Aa rfl rfl (fun W hW _ => hZr hW id 1 (.int .i64 Z.to) rfl) (by rfl) fun _ => ?_
            conv => whnf
            refine alk rfl rfl fun b18 D18 hD18 => ?_
            conv => whnf
            intro wF kF hdF
            have hb18 := hD18 wF (hdF 12)
            obtain ⟨m18r,hb18z⟩ := hb18
            refine st Aa m18r rfl (Nat.le_refl 3) rfl ?_
            intro wG zG kG m18s
            have m18 : Own wG b18 104 [.int .i64 Z.frm,.int .i64 Z.to,.int .i64 d] := m18s
            clear m18r m18s
            have kEG : Kp wE wG := kF.newS kG fun j hj => by have : j = b18 := hj; omega
            have cG := cE.newT kEG fun _ hf => hf.elim
            have XG := XE.kp kEG
            have mpG := kEG.own mpE id
            have hA1x : ∃ A1,A1 = Ba i d (L,[]) (l.take k) := ⟨_,rfl⟩
            obtain ⟨A1,hA1⟩ := hA1x
            rw [← hA1] at XG hRefE
            have hb1 := Cm (n := n) (k := 2) (i := i) (d := d) hdr (l.take k) (L,[]) (fun x hx => hlto x (List.mem_of_mem_take hx)) hDok.nd hDok.box
            rw [← hA1] at hb1
            have hA1l := A6 hb1.1 hb1.2.1
            have hlk : l[k]? = some e := hxe
            have hsnoc : Ba i d (L,[]) (l.take (k + 1)) = G4 i d A1 e := by
             have hkl : k < l.length := by omega
             rw [List.take_succ_eq_append_getElem hkl,Ey,← hA1]
             rw [List.getElem?_eq_getElem hkl] at hlk
             injection hlk with hlk
             rw [hlk]
            have hTTx : ∃ TT : Nat → Prop,TT = fun g => g = b ∨ g = m ∨ some g = vL.ownBlock := ⟨_,rfl⟩
            obtain ⟨TT,hTT⟩ := hTTx
            have hTb : ∀ g,TT g → B ≤ g := fun g hg => hTB XG g (by rw [hTT] at hg; exact hg)
            have hTl : ∀ g,TT g → g < wE.heap.size := fun g hg => by
             rw [hTT] at hg
             rcases hg with rfl | rfl | hg
             · exact XE.hdr.lt
             · exact XE.map.lt
             · exact (XE.rL.lt g hg.symm).2
            have hTs : ∀ g,TT g → g < wZ.heap.size ∨ hiW ≤ g := fun g hg => by
             rw [hTT] at hg
             rcases hg with rfl | rfl | hg
             · exact .inl hzb.1
             · exact .inl hzb.2
             · exact hsL g hg.symm
            have hz18 : wE.heap.size ≤ b18 := hb18z
            have hn18 : ¬ TT b18 := fun hh => by have := hTl b18 hh; omega
            have hnlb : ¬ TT lb := fun hh => by rcases hTs lb hh with h | h <;> omega
            have hzEG : wE.heap.size ≤ wG.heap.size := kEG.size
            have hbT : TT b := by rw [hTT]; exact .inl rfl
            have hmT : TT m := by rw [hTT]; exact .inr (.inl rfl)
            have hpre := Bh TT wG Ad 0 []
            have lowS : ∀ {W},CAppR TT wG Ad 0 [] wG W → Chg TT wG W := fun {W} hS => hS.chg.mono fun g hg => hg.elim id fun h => by cases h
            have htau : Ex bn (e.to,d) = (Z.frm,Z.to,d) := by rw [hed']; exact Tz hZto
            have hkEGT : ∀ {W},CAppR TT wG Ad 0 [] wG W → Chg TT wE W := fun hS => (kEG.mono fun _ hf => hf.elim).trans (lowS hS)
            refine Gm Aa mixed 16 [2,3,4,0,1,5,6,7,8,9,10,11,12,13,14,15] (by kernel_rfl) (CAppR TT wG Ad 0 []) hpre (fun W => W.heap.size = wG.heap.size ∧ Kp wG W) 4 ⟨rfl,(Chg.refl _ _).drew⟩ ?_
            conv => whnf
            refine Fc hpre Aa (v := H9 (Z.frm,Z.to,d)) rfl rfl (fun W h _ _ => Own.all ((lowS h).own m18 hn18)) (by rfl) fun _ => ?_
            conv => whnf
            refine Jp (τ := Value) (hne := ⟨undef⟩) (.int .i64 (Aw A1.1 (e.to,d) : Nat)) (fun v' W => NumC W B b m v' ((B7 A1.1 (e.to,d)).map (Ex bn)) [.map (some m),vR,vP,.int .i64 (if i = 0 then 0 else (L.length : Nat)),vI,vE,vF] ∧ (∀ g,v'.ownBlock = some g → vL.ownBlock = some g ∨ wG.heap.size ≤ g) ∧ wG.heap.size < W.heap.size) rfl rfl rfl (fun v' W W' hFv hS => ?_) I8 (fun W hS _ hU => ?_) fun v' Dd hD => ?_
            · obtain ⟨f1,f2,f3⟩ := hFv
              exact ⟨f1.once hS f3 hbT hmT (fun g hg => (f2 g hg).imp (fun h => by rw [hTT]; exact .inr (.inr h.symm)) id) (fun g hg => by have := hTl g hg; omega) (fun g hg => by cases hg),f2,by have := hS.chg.size; omega⟩
            · obtain ⟨hU1,hU2⟩ := hU
              have hcall := Qa (XG.kp hU2) (p := Ex bn (e.to,d)) (Wn (n := n) (k := 2) ⟨het.1,het.2,hdr.1,hdr.2⟩ (by omega) (by decide) (by omega)) (by rw [List.length_map]; omega)
              rw [E2 G8,Gi G8,htau] at hcall
              refine hcall.mono fun en W' hr => ?_
              cases en with
              | returned v =>
               obtain ⟨rfl,v',hX,hc',hg',hs'⟩ := hr
               exact ⟨rfl,⟨hc'.mono fun g hg => .inl (by rw [hTT]; exact hg),fun g hg hl => (by cases hg),.inr (by omega)⟩,v',⟨hX.hdr,hX.map,hX.rL⟩,fun g hg => (hg' g hg).imp id fun h => by omega,by omega⟩
              | _ => exact hr.elim
            conv => whnf
            refine ne ⟨by omega,by omega⟩ ?_
            conv => whnf
            refine Fc hpre Aa rfl rfl (fun W h _ _ => hZr (hkEGT h) hnlb 2 (.int .u16 Z.must) rfl) (by rfl) fun _ => ?_
            conv => whnf
            refine ne ⟨by omega,by omega⟩ ?_
            conv => whnf
            refine Fc hpre Aa rfl rfl (fun W h _ _ => hZr (hkEGT h) hnlb 3 (.int .u16 Z.no) rfl) (by rfl) fun _ => ?_
            conv => whnf
            intro wH hSH hdH
            have hNH := hD wH (hdH 4)
            obtain ⟨ncH,hnewH,hszH⟩ := hNH
            have hndH : ((B7 A1.1 (e.to,d)).map (Ex bn)).Nodup := Ce G8 (Ca hb1.1)
            have cGH : Chg (fun g => g = b ∨ g = m ∨ some g = vL.ownBlock) wG wH := (lowS hSH).mono fun g hg => by rw [hTT] at hg; exact hg
            have XH := NumC.x XG cGH ncH hndH
            have hcallE := Rm XH hRefE.r (by omega) ⟨i,(Aw A1.1 (e.to,d) : Nat),Z.must,Z.no⟩
            refine cl L7 hcallE ?_
            rintro rE wI ⟨R',vR',hIns,XI,cI,hnewR⟩
            have hfv := Ae XI.rL
            obtain ⟨va,vc,rfl⟩ := hfv
            have hA2l : (B7 A1.1 (e.to,d)).length ≤ n * 2 := A6 (n := n) (k := 2) (Ca hb1.1) (Ky hb1.2.1 ⟨het.1,het.2,hdr.1,hdr.2⟩)
            refine ld Aa (Own.at_ (xs := [.slice va ((B7 A1.1 (e.to,d)).map (Ex bn)).length vc]) (o := 0) XI.hdr rfl) (by rfl) ?_
            refine Bs (by rw [List.length_map]; omega) ?_
            have hb9T : ¬ TT b9 := fun hh => by
             rw [hTT] at hh
             rcases hh with hh | hh | hh
             · exact A2 mpG XG.hdr (by decide) hh
             · exact XG.map.ne mpG hh
             · exact hb9E hh.symm
            have mpH := (lowS hSH).own mpG hb9T
            have hb9R : some b9 ≠ vR.ownBlock := fun he => Ai XH.o.rR mpH (fun cs fr hh => by injection hh with _ h2; exact absurd h2 (by decide)) he.symm
            have hzGH : wG.heap.size ≤ wH.heap.size := hSH.chg.size
            have hzHI : wH.heap.size ≤ wI.heap.size := cI.size
            refine aw (by simp only; omega) (by simp only; omega) ?_
            refine again (k + 1,.slice va ((B7 A1.1 (e.to,d)).map (Ex bn)).length vc,vR',R') ⟨rfl,rfl,rfl,rfl,rfl,rfl,rfl,rfl,rfl,rfl,rfl,rfl,rfl,trivial⟩ ⟨by simp only; omega,?_,?_,?_,cI.own mpH fun hh => hh.elim (A2 mpH XH.hdr (by decide)) hb9R,fun hh => ?_,?_,?_,by omega,fun g hg => ?_,fun g hg => ?_⟩ (by simp only; omega)
            · exact (cG.trans ((lowS hSH).mono hTb)).trans (cI.mono fun g hg => hg.elim (fun h => by rw [h]; exact hb5) fun h => Ah XH.o.rR h.symm)
            · simp only
              rw [hsnoc]
              exact XI
            · simp only
              rw [hsnoc]
              have h9 := hRefE.ins hIns rfl
              rw [show (⟨i,(Aw A1.1 (e.to,d) : Nat),Z.must,Z.no⟩ : Edge) = ⟨i,(Aw A1.1 (e.to,d) : Nat),e.must,e.no⟩ by rw [hed']; rfl] at h9
              exact h9
            · rcases hnewH b9 hh with h1 | h1
              · exact hb9E h1
              · have := mpG.lt; omega
            · have := hIns.len hRefE.r
              simp only
              omega
            · refine (hrowE0.chg (hkEGT hSH) (fun g h1 h2 hh => ?_) (fun _ _ h => h)).chg cI (fun g h1 h2 hh => ?_) (fun _ _ h => h)
              · rcases hTs g hh with h | h <;> omega
              · rcases hh with hh | hh
                · have h3 : g = b := hh
                  have := hzb.1
                  omega
                · rcases hsR g hh.symm with h | h <;> omega
            · rcases hnewH g hg with h1 | h1
              · exact hsL g h1
              · exact .inr (by omega)
            · rcases hnewR g hg with h1 | h1
              · exact hsR g h1
              · exact .inr (by omega)
          · have hke : k = Wl.length := by simp only at hge2; omega
            rw [hke,← hll,List.take_length] at XE hRefE
            have hA1x : ∃ A1,A1 = Ba i d (L,[]) l := ⟨_,rfl⟩
            obtain ⟨A1,hA1⟩ := hA1x
            rw [← hA1] at XE hRefE
            have hb1 := Cm (n := n) (k := 2) (i := i) (d := d) hdr l (L,[]) hlto hDok.nd hDok.box
            rw [← hA1] at hb1
            have hA1l := A6 hb1.1 hb1.2.1
            have hRlen : i + 1 ≤ A1.1.length := by
             have h1 := Dy i d l (L,[])
             rw [← hA1] at h1
             simp only at h1
             omega
            have hDn : A5 sets fr (L0,[],[]) (i + 1) = (A1.1,E ++ A1.2,F ++ if B9 sets ((ps : Nat),((pw : Nat) : Int)) = true then [(i : Int)] else []) := by
             show Gh sets fr i (A5 sets fr (L0,[],[]) i) = _
             rw [← hDi]
             unfold Gh
             rw [hxi]
             simp only
             rw [← hdd,← hl,Eh,← hA1]
            rcases hend with ⟨hpw,hfin⟩ | ⟨hpw,hfin⟩
            · replace hfin := hE0.1 hfin
              refine Ax Aa mixed 12 (by kernel_rfl) (fun _ => False) ?_
              conv => whnf
              refine A7 Aa (v := .int .i64 ((pw : Nat) : Int)) rfl rfl (fun W hW _ => Own.at_ (xs := [.int .i64 ((pw : Nat) : Int)]) (o := 2) (hW.own mpE id) rfl) (by rfl) fun _ => ?_
              conv => whnf
              refine Bs (by omega) ?_
              conv => whnf
              intro wJ' kJ' _
              have XJ' := XE.kp kJ'
              have cJ' := cE.newT kJ' fun _ hf => hf.elim
              have hsh := Fk XJ' (by omega) (by simp only; omega)
              refine cl Do hsh ?_
              rintro rS wS ⟨vE',XS,cS⟩
              refine aw (by omega) (by omega) ?_
              refine again (i + 1,vL,vE',vF,D ++ R) ⟨rfl,rfl,rfl,rfl,rfl,rfl,rfl,rfl,rfl,trivial⟩ ⟨?_,cJ'.trans (cS.mono fun g hg => hg.elim (fun h => by rw [h]; exact hb5) fun h => Ah XJ'.o.rE h.symm),?_,?_⟩ (by simp only; omega)
              all_goals (try simp only)
              all_goals (try rw [hDn])
              · exact hRlen
              · rw [hfin,if_neg (show ¬ (i + 1 = 0) by omega)]
                rw [List.length_map] at XS
                exact XS
              · exact hRefE.shut
            · rcases hEE.1 hfin with ⟨hmq,hfin⟩ | ⟨hmq,hfin⟩
              · rewrite [hmq] at hub1
                refine Ax Aa mixed 12 (by kernel_rfl) (fun _ => False) ?_
                conv => whnf
                refine A7 Aa (v := .int .i64 ((pw : Nat) : Int)) rfl rfl (fun W hW _ => Own.at_ (xs := [.int .i64 ((pw : Nat) : Int)]) (o := 2) (hW.own mpE id) rfl) (by rfl) fun _ => ?_
                conv => whnf
                refine Dj (by omega) ?_
                conv => whnf
                refine ne ⟨by decide,by show (0 : Int) < ((1 : Nat) : Int); decide⟩ ?_
                conv => whnf
                refine A7 Aa (v := .slice (some ⟨ub,uo,none⟩) bn uc) rfl rfl (fun W hW _ => Rd (cE.newT hW fun _ hf => hf.elim) (by omega) htr0) (by rfl) fun _ => ?_
                conv => whnf
                refine A7 Aa (v := .int .i64 (Qm : Nat)) rfl rfl (fun W hW _ => Own.at_ (xs := [.int .i64 (Qm : Nat)]) (o := 1) (hW.own mpE id) rfl) (by rfl) fun _ => ?_
                conv => whnf
                refine ne ⟨by omega,by omega⟩ ?_
                conv => whnf
                refine A7 Aa (v := .bool true) rfl rfl (fun W hW _ => by rw [Int.toNat_natCast]; exact Rd (cE.newT hW fun _ hf => hf.elim) (by omega) hub1) (by rfl) fun _ => ?_
                conv => whnf
                intro wJ' kJ' _
                have XJ' := XE.kp kJ'
                have cJ' := cE.newT kJ' fun _ hf => hf.elim
                refine ld Aa (Own.at_ (xs := [vF]) (o := 7) XJ'.hdr rfl) (by rfl) ?_
                refine ne (by decide) ?_
                refine nd fun bq wK eK zK kK mq => ?_
                have mq : Own wK bq 3 [.int .i64 (i : Nat)] := mq
                have XK := XJ'.kp kK
                have cK := cJ'.newT kK fun _ hf => hf.elim
                refine Yu (m := 1) (news := [.int .i64 (i : Nat)]) Aa rfl rfl rfl rfl rfl rfl rfl (by decide) (show wK.ownsRow B 3 1 vF F.length (F.flatMap Ia) from XK.o.rF) rfl (Own.at_ (xs := [.int .i64 (i : Nat)]) (o := 0) mq rfl) rfl (by simp only [maxLen]; omega) (by show (_ + 1) * 8 ≤ _; omega) XK.base fun vF' wM rFM cM hnewF => ?_
                have hff := Ae rFM
                obtain ⟨fa',fc',rfl⟩ := hff
                have hbF : some b ≠ vF.ownBlock := fun he => (XK.mR (g := b) (.inr (.inr (.inr (.inr he.symm))))).2.1 rfl
                have hdrM := cM.own XK.hdr hbF
                refine st Aa hdrM rfl (show 8 ≤ 8 by decide) rfl ?_
                intro wN zN cN hdrN
                have hdrN : Own wN b 101 [vL,.map (some m),vR,vP,.int .i64 (if i = 0 then 0 else (L.length : Nat)),vI,vE,.slice fa' (F.length + 1) fc'] := hdrN
                have hnbF : ∀ g,(Value.slice fa' (F.length + 1) fc').ownBlock = some g → ¬ g = b := fun g hg he => by
                 subst he
                 exact Ai rFM hdrM (fun cs fr hh => by injection hh with _ h2; exact absurd h2 (by decide)) hg
                have cKN : Chg (fun j => j = b ∨ some j = vF.ownBlock) wK wN := (cM.mono fun _ => .inr).trans (cN.mono fun _ => .inl)
                have XN := XK.newF cKN (vF' := .slice fa' (F.length + 1) fc') (F' := F ++ [(i : Int)]) hdrN (by
                 rw [List.length_append,List.flatMap_append]
                 exact Ab rFM cN hnbF) hnewF
                have cN6 := cK.trans (cKN.mono fun g hg => hg.elim (fun h => by rw [h]; exact hb5) fun h => Ah XK.o.rF h.symm)
                have hsh := Fk XN (by omega) (by simp only; omega)
                refine cl Do hsh ?_
                rintro rS wS ⟨vE',XS,cS⟩
                refine aw (by omega) (by omega) ?_
                refine again (i + 1,vL,vE',(.slice fa' (F.length + 1) fc'),D ++ R) ⟨rfl,rfl,rfl,rfl,rfl,rfl,rfl,rfl,rfl,trivial⟩ ⟨?_,cN6.trans (cS.mono fun g hg => hg.elim (fun h => by rw [h]; exact hb5) fun h => Ah XN.o.rE h.symm),?_,?_⟩ (by simp only; omega)
                all_goals (try simp only)
                all_goals (try rw [hDn])
                · exact hRlen
                · rw [hfin,if_neg (show ¬ (i + 1 = 0) by omega)]
                  rw [List.length_map] at XS
                  exact XS
                · exact hRefE.shut
              · rewrite [hmq] at hub1
                refine Ax Aa mixed 12 (by kernel_rfl) (fun _ => False) ?_
                conv => whnf
                refine A7 Aa (v := .int .i64 ((pw : Nat) : Int)) rfl rfl (fun W hW _ => Own.at_ (xs := [.int .i64 ((pw : Nat) : Int)]) (o := 2) (hW.own mpE id) rfl) (by rfl) fun _ => ?_
                conv => whnf
                refine Dj (by omega) ?_
                conv => whnf
                refine ne ⟨by decide,by show (0 : Int) < ((1 : Nat) : Int); decide⟩ ?_
                conv => whnf
                refine A7 Aa (v := .slice (some ⟨ub,uo,none⟩) bn uc) rfl rfl (fun W hW _ => Rd (cE.newT hW fun _ hf => hf.elim) (by omega) htr0) (by rfl) fun _ => ?_
                conv => whnf
                refine A7 Aa (v := .int .i64 (Qm : Nat)) rfl rfl (fun W hW _ => Own.at_ (xs := [.int .i64 (Qm : Nat)]) (o := 1) (hW.own mpE id) rfl) (by rfl) fun _ => ?_
                conv => whnf
                refine ne ⟨by omega,by omega⟩ ?_
                conv => whnf
                refine A7 Aa (v := .bool false) rfl rfl (fun W hW _ => by rw [Int.toNat_natCast]; exact Rd (cE.newT hW fun _ hf => hf.elim) (by omega) hub1) (by rfl) fun _ => ?_
                conv => whnf
                intro wJ' kJ' _
                have XJ' := XE.kp kJ'
                have cJ' := cE.newT kJ' fun _ hf => hf.elim
                have hsh := Fk XJ' (by omega) (by simp only; omega)
                refine cl Do hsh ?_
                rintro rS wS ⟨vE',XS,cS⟩
                refine aw (by omega) (by omega) ?_
                refine again (i + 1,vL,vE',vF,D ++ R) ⟨rfl,rfl,rfl,rfl,rfl,rfl,rfl,rfl,rfl,trivial⟩ ⟨?_,cJ'.trans (cS.mono fun g hg => hg.elim (fun h => by rw [h]; exact hb5) fun h => Ah XJ'.o.rE h.symm),?_,?_⟩ (by simp only; omega)
                all_goals (try simp only)
                all_goals (try rw [hDn])
                · exact hRlen
                · rw [hfin,if_neg (show ¬ (i + 1 = 0) by omega)]
                  rw [List.length_map] at XS
                  exact XS
                · exact hRefE.shut
       · have hiL : L.length ≤ i := by simp only at hge; omega
         have hiE : i = L.length := by omega
         have hstop := E5 (sets := sets) (fr := fr) (st0 := (L0,[],[])) (i := i) (by rw [← hDi]; exact hiL) (n * 2) (by omega)
         rw [← hDi] at hstop
         have hgd : Dq a b0 = { props := a.props,states := (L.length : Nat),init := I,edges := D,final := F } := by
          rw [hdg]
          unfold Cf
          rw [← hL0,← hIe,hstop,hRef.done]
         have hst : (if i = 0 then (0 : Int) else ((L.length : Nat) : Int)) = ((L.length : Nat) : Int) := by
          split
          · omega
          · rfl
         rw [hst] at XA
         have hfP := Ae XA.o.rP
         obtain ⟨pA,pC,rfl⟩ := hfP
         have hfI := Ae XA.o.rI
         obtain ⟨iA,iC,hvI2⟩ := hfI
         have hfE := Ae XA.o.rE
         obtain ⟨eA,eC,rfl⟩ := hfE
         have hfF := Ae XA.o.rF
         obtain ⟨fA,fC,rfl⟩ := hfF
         have hvI3 := hvI.symm.trans hvI2
         subst hvI2
         refine ld Aa (v := .agg #[.slice pA a.props.length pC,.int .i64 (L.length : Nat),.slice iA I.length iC,.slice eA D.length eC,.slice fA F.length fC]) (Own.at_ (xs := [.slice pA a.props.length pC,.int .i64 (L.length : Nat),.slice iA I.length iC,.slice eA D.length eC,.slice fA F.length fC]) (o := 3) XA.hdr rfl) (by rfl) ?_
         have m2A := cA.own M2 fun hh => by have : B ≤ b2 := hh; omega
         refine st Aa m2A rfl (Nat.le_refl 5) rfl ?_
         intro wB zB cB m2B
         have m2B : Own wB b2 29 [.slice pA a.props.length pC,.int .i64 (L.length : Nat),.slice iA I.length iC,.slice eA D.length eC,.slice fA F.length fC] := m2B
         refine ld Aa (v := .agg #[.slice pA a.props.length pC,.int .i64 (L.length : Nat),.slice iA I.length iC,.slice eA D.length eC,.slice fA F.length fC]) (Own.all m2B) (by rfl) ?_
         have oB := XA.o.keep cB fun g hg he => by
          have h1 := (XA.o.lt hg).1
          have h2 : g = b2 := he
          omega
         have low : ∀ {el size v n xs},wB.ownsRow B el size v n xs → wB.ownsRow w.heap.size el size v n xs := fun {el size v n xs} h => Ap h (by omega)
         have hout : OutV w.heap.size wB (.slice pA a.props.length pC) (.slice iA I.length iC) (.slice eA D.length eC) (.slice fA F.length fC) (Dq a b0) := by
          rw [hgd]
          exact ⟨low oB.rP,low oB.rI,low oB.rE,low oB.rF,oB.sI⟩
         have hf := hout.form
         obtain ⟨y,y1,y2,y3,y4⟩ := hf
         refine ⟨(hK cA).newS cB fun j hj => by have : j = b2 := hj; omega,.inr ⟨by unfold Bx; rw [hc,hc2,decide_eq_true hpp]; rfl,y,?_,?_⟩⟩
         · show Value.tuple #[.agg #[.slice pA a.props.length pC,.int .i64 (L.length : Nat),.slice iA I.length iC,.slice eA D.length eC,.slice fA F.length fC],.int .i64 0] = .tuple #[Fg (Dq a b0) y,.int .i64 0]
           unfold Fg
           rw [← y1,← y2,← y3,← y4]
           rw [show ((L.length : Nat) : Int) = (Dq a b0).states by rw [hgd]]
         · show OutV _ _ _ _ _ _ _
           rw [← y1,← y2,← y3,← y4]
           exact hout
   · rw [decide_eq_false hpp] at hsn
     refine cl Jr hsn ?_
     rintro _ w2c ⟨rfl,k2c⟩
     have m2 := k2c.own m2 id
     have K2c := K2b.trans k2c
     refine st Aa m2 rfl (Nat.le_refl 5) rfl ?_
     intro w4 z4 k4 m4
     have m4 : Own w4 b2 29 [Ad,.int .i64 0,Ad,Ad,Ad] := m4
     refine ld Aa (v := .agg #[Ad,.int .i64 0,Ad,Ad,Ad]) (Own.all m4) (by rfl) ?_
     exact ⟨K2c.newS k4 fun j hj => by have : j = b2 := hj; have := k1.size; have := k2.size; omega,.inl ⟨by unfold Bx; rw [hc,hc2,decide_eq_false hpp]; rfl,rfl⟩⟩
theorem OutV.bv {base : Nat} {w : World} {vP vI vE vF : Value} {g : Buchi} (h : OutV base w vP vI vE vF g) (hw : ∀ e ∈ g.edges,e.wf) (lp : g.props.length < 1000000000000) (li : g.init.length < 1000000000000) (le : g.edges.length < 1000000000000) (lf : g.final.length < 1000000000000) : BuchiV 0 w.heap.size w vP vI vE vF g := by
 have hrE : RowE (fun _ cs x => cs = Edge.cells x) 4 base w.heap.size w vE g.edges := Av (f := Edge.cells) (fun _ => rfl) h.rE (by decide)
 exact ⟨RowE.mono (Av (f := Y4) (fun _ => rfl) h.props (by decide)) (fun _ _ h => h) (Nat.zero_le _) (Nat.le_refl _),RowE.mono (Av (f := Ia) (fun _ => rfl) h.rI (by decide)) (fun _ _ h => h) (Nat.zero_le _) (Nat.le_refl _),
  RowE.mono (hrE.and hw) (fun _ _ h => h) (Nat.zero_le _) (Nat.le_refl _),RowE.mono (Av (f := Ia) (fun _ => rfl) h.rF (by decide)) (fun _ _ h => h) (Nat.zero_le _) (Nat.le_refl _),by omega,by omega,by omega,by omega⟩
theorem Du : Af prog 43 = true := by kernel_rfl
theorem Fb {w : World} {lo hi lo2 hi2 : Nat} {p i e f p2 i2 e2 f2 : Value} {g : Buchi} (h : BuchiV lo hi w p i e f g) (h' : BuchiV lo2 hi2 w p2 i2 e2 f2 g) :
 Calls prog 43 [.agg #[p,.int .i64 g.states,i,e,f],.agg #[p2,.int .i64 g.states,i2,e2,f2]].toArray w (Bg fun r w' => r = .bool true ∧ Kp w w') := by
 obtain ⟨a1,c1,rfl,-⟩ := id h.props
 obtain ⟨a2,c2,rfl,-⟩ := id h.init
 obtain ⟨a3,c3,rfl,-⟩ := id h.edges
 obtain ⟨a4,c4,rfl,-⟩ := id h.final
 obtain ⟨b1,d1,rfl,-⟩ := id h'.props
 obtain ⟨b2,d2,rfl,-⟩ := id h'.init
 obtain ⟨b3,d3,rfl,-⟩ := id h'.edges
 obtain ⟨b4,d4,rfl,-⟩ := id h'.final
 refine call Aa func43 rfl ntmps43 (by kernel_rfl) ?_
 refine nd fun q1 w1 e1 s1 k1 m1 => ?_
 have m1 : Own w1 q1 29 [.slice a1 g.props.length c1,.int .i64 g.states,.slice a2 g.init.length c2,.slice a3 g.edges.length c3,.slice a4 g.final.length c4] := m1
 refine nd fun q2 w2 e2 s2 k2 m2 => ?_
 have m2 : Own w2 q2 29 [.slice b1 g.props.length d1,.int .i64 g.states,.slice b2 g.init.length d2,.slice b3 g.edges.length d3,.slice b4 g.final.length d4] := m2
 have m1 := k2.own m1 id
 have K2 := k1.trans k2
 refine ld Aa (Own.at_ (xs := [.slice a1 g.props.length c1]) (o := 0) m1 rfl) (by rfl) ?_
 refine ld Aa (Own.at_ (xs := [.slice b1 g.props.length d1]) (o := 0) m2 rfl) (by rfl) ?_
 have hs := Mh (h.props.chg K2 (fun _ _ _ h => h) (fun _ _ h => h)) (h'.props.chg K2 (fun _ _ _ h => h) (fun _ _ h => h)) h.lp
 rw [decide_eq_true rfl] at hs
 refine cl Jq hs ?_
 rintro _ w3 ⟨rfl,k3⟩
 have K3 := K2.trans k3
 have m1 := k3.own m1 id
 have m2 := k3.own m2 id
 refine ld Aa (Own.at_ (xs := [.int .i64 g.states]) (o := 1) m1 rfl) (by rfl) ?_
 refine ld Aa (Own.at_ (xs := [.int .i64 g.states]) (o := 1) m2 rfl) (by rfl) ?_
 refine Dj rfl ?_
 refine ld Aa (Own.at_ (xs := [.slice a2 g.init.length c2]) (o := 2) m1 rfl) (by rfl) ?_
 refine ld Aa (Own.at_ (xs := [.slice b2 g.init.length d2]) (o := 2) m2 rfl) (by rfl) ?_
 have hs := Jy (h.init.chg K3 (fun _ _ _ h => h) (fun _ _ h => h)) (h'.init.chg K3 (fun _ _ _ h => h) (fun _ _ h => h)) h.li
 rw [decide_eq_true rfl] at hs
 refine cl H0 hs ?_
 rintro _ w4 ⟨rfl,k4⟩
 have K4 := K3.trans k4
 have m1 := k4.own m1 id
 have m2 := k4.own m2 id
 refine ld Aa (Own.at_ (xs := [.slice a3 g.edges.length c3]) (o := 3) m1 rfl) (by rfl) ?_
 refine ld Aa (Own.at_ (xs := [.slice b3 g.edges.length d3]) (o := 3) m2 rfl) (by rfl) ?_
 have hs := Mi (RowE.mono (h.edges.chg K4 (fun _ _ _ h => h) (fun _ _ h => h)) (fun _ _ h => h.1) (Nat.le_refl _) (Nat.le_refl _)) (RowE.mono (h'.edges.chg K4 (fun _ _ _ h => h) (fun _ _ h => h)) (fun _ _ h => h.1) (Nat.le_refl _) (Nat.le_refl _)) h.le
 rw [decide_eq_true rfl] at hs
 refine cl Js hs ?_
 rintro _ w5 ⟨rfl,k5⟩
 have K5 := K4.trans k5
 have m1 := k5.own m1 id
 have m2 := k5.own m2 id
 refine ld Aa (Own.at_ (xs := [.slice a4 g.final.length c4]) (o := 4) m1 rfl) (by rfl) ?_
 refine ld Aa (Own.at_ (xs := [.slice b4 g.final.length d4]) (o := 4) m2 rfl) (by rfl) ?_
 have hs := Jy (h.final.chg K5 (fun _ _ _ h => h) (fun _ _ h => h)) (h'.final.chg K5 (fun _ _ _ h => h) (fun _ _ h => h)) h.lf
 rw [decide_eq_true rfl] at hs
 refine cl H0 hs ?_
 rintro _ w6 ⟨rfl,k6⟩
 exact ⟨rfl,K5.trans k6⟩
theorem Jw : Af prog 59 = true := by kernel_rfl
theorem Mw {w : World} {base b : Nat} {vT vI vE : Value} {LT LI LE : List Value} (h : BookV w base b vT vI vE LT LI LE) {g : Buchi} (y : Wi) (hT : LT.length < 900) (hI : LI.length < 900) (hE : LE.length < 900) :
 Calls prog 59 [pt b 0,Fg g y].toArray w (Bg fun _ w' => ∃ vT' vI' vE',BookV w' base b vT' vI' vE' (LT ++ [.slice y.1.1 g.props.length y.1.2]) (LI ++ [.slice y.2.1.1 g.init.length y.2.1.2,.slice y.2.2.2.1 g.final.length y.2.2.2.2]) (LE ++ [.slice y.2.2.1.1 g.edges.length y.2.2.1.2]) ∧
  Chg (By b vT vI vE) w w' ∧ ∀ k,By b vT' vI' vE' k → By b vT vI vE k ∨ w.heap.size ≤ k) := by
 refine call Aa func59 rfl ntmps59 (by kernel_rfl) ?_
 refine nd fun q w1 e1 z1 k1 m1 => ?_
 have m1 : Own w1 q 29 [.slice y.1.1 g.props.length y.1.2,.int .i64 g.states,.slice y.2.1.1 g.init.length y.2.1.2,.slice y.2.2.1.1 g.edges.length y.2.2.1.2,.slice y.2.2.2.1 g.final.length y.2.2.2.2] := m1
 have h1 := h.kp k1
 have hz1 := k1.size
 refine ld Aa (Own.at_ (xs := [.slice y.1.1 g.props.length y.1.2]) (o := 0) m1 rfl) (by rfl) ?_
 refine cl Pw (Uj h1 rfl (by omega)) ?_
 rintro _ w2 ⟨vT2,h2,c2,n2⟩
 have m2 := c2.own m1 (h1.off m1 (.inr (.inr (.inr rfl))))
 refine ld Aa (Own.at_ (xs := [.slice y.2.1.1 g.init.length y.2.1.2]) (o := 2) m2 rfl) (by rfl) ?_
 refine cl Ln (Pe h2 rfl (by omega)) ?_
 rintro _ w3 ⟨vI3,h3,c3,n3⟩
 have m3 := c3.own m2 (h2.off m2 (.inr (.inr (.inr rfl))))
 refine ld Aa (Own.at_ (xs := [.slice y.2.2.1.1 g.edges.length y.2.2.1.2]) (o := 3) m3 rfl) (by rfl) ?_
 refine cl Px (Uk h3 rfl (by omega)) ?_
 rintro _ w4 ⟨vE4,h4,c4,n4⟩
 have m4 := c4.own m3 (h3.off m3 (.inr (.inr (.inr rfl))))
 refine ld Aa (Own.at_ (xs := [.slice y.2.2.2.1 g.final.length y.2.2.2.2]) (o := 4) m4 rfl) (by rfl) ?_
 refine cl Ln (Pe h4 rfl (by rw [List.length_append]; simp; omega)) ?_
 rintro _ w5 ⟨vI5,h5,c5,n5⟩
 have z2 := c2.size
 have z3 := c3.size
 have z4 := c4.size
 have N2 : ∀ k,By b vT2 vI vE k → By b vT vI vE k ∨ w.heap.size ≤ k := fun k hk => (n2 k hk).imp id fun h => by omega
 have N3 : ∀ k,By b vT2 vI3 vE k → By b vT vI vE k ∨ w.heap.size ≤ k := fun k hk => (n3 k hk).elim (N2 k) fun h => .inr (by omega)
 have N4 : ∀ k,By b vT2 vI3 vE4 k → By b vT vI vE k ∨ w.heap.size ≤ k := fun k hk => (n4 k hk).elim (N3 k) fun h => .inr (by omega)
 have N5 : ∀ k,By b vT2 vI5 vE4 k → By b vT vI vE k ∨ w.heap.size ≤ k := fun k hk => (n5 k hk).elim (N4 k) fun h => .inr (by omega)
 refine ⟨vT2,vI5,vE4,?_,?_,N5⟩
 · have : LI ++ [.slice y.2.1.1 g.init.length y.2.1.2,.slice y.2.2.2.1 g.final.length y.2.2.2.2] = LI ++ [.slice y.2.1.1 g.init.length y.2.1.2] ++ [.slice y.2.2.2.1 g.final.length y.2.2.2.2] := by simp
   rw [this]
   exact h5
 · exact ((((k1.mono fun _ hf => hf.elim).trans c2).newT c3 N2).newT c4 N3).newT c5 N4
theorem L5 : Af prog 20 = true := by kernel_rfl
theorem Ra {w : World} {base b : Nat} {vT vI vE : Value} {LT LI LE : List Value} (h : BookV w base b vT vI vE LT LI LE) {g : Buchi} (y z u : Wi) (hT : LT.length < 800) (hI : LI.length < 800) (hE : LE.length < 800)
 (hy : ∀ W,Kp w W → BuchiV 0 W.heap.size W (.slice y.1.1 g.props.length y.1.2) (.slice y.2.1.1 g.init.length y.2.1.2) (.slice y.2.2.1.1 g.edges.length y.2.2.1.2) (.slice y.2.2.2.1 g.final.length y.2.2.2.2) g)
 (hz : ∀ W,Kp w W → BuchiV 0 W.heap.size W (.slice z.1.1 g.props.length z.1.2) (.slice z.2.1.1 g.init.length z.2.1.2) (.slice z.2.2.1.1 g.edges.length z.2.2.1.2) (.slice z.2.2.2.1 g.final.length z.2.2.2.2) g)
 (hu : ∀ W,Kp w W → BuchiV 0 W.heap.size W (.slice u.1.1 g.props.length u.1.2) (.slice u.2.1.1 g.init.length u.2.1.2) (.slice u.2.2.1.1 g.edges.length u.2.2.1.2) (.slice u.2.2.2.1 g.final.length u.2.2.2.2) g) :
 Calls prog 20 [pt b 0,Fg g y,Fg g z,Fg g u].toArray w (Bg fun r w' => r = .bool true ∧ ∃ vT' vI' vE',BookV w' base b vT' vI' vE' (LT ++ [.slice y.1.1 g.props.length y.1.2,.slice z.1.1 g.props.length z.1.2])
  (LI ++ [.slice y.2.1.1 g.init.length y.2.1.2,.slice y.2.2.2.1 g.final.length y.2.2.2.2,.slice z.2.1.1 g.init.length z.2.1.2,.slice z.2.2.2.1 g.final.length z.2.2.2.2]) (LE ++ [.slice y.2.2.1.1 g.edges.length y.2.2.1.2,.slice z.2.2.1.1 g.edges.length z.2.2.1.2]) ∧
  Chg (By b vT vI vE) w w' ∧ ∀ k,By b vT' vI' vE' k → By b vT vI vE k ∨ w.heap.size ≤ k) := by
 refine call Aa func20 rfl ntmps20 (by kernel_rfl) ?_
 refine nd fun q1 w1 e1 z1 k1 m1 => ?_
 refine nd fun q2 w2 e2 z2 k2 m2 => ?_
 refine nd fun q3 w3 e3 z3 k3 m3 => ?_
 have M1 : Own w3 q1 29 [.slice y.1.1 g.props.length y.1.2,.int .i64 g.states,.slice y.2.1.1 g.init.length y.2.1.2,.slice y.2.2.1.1 g.edges.length y.2.2.1.2,.slice y.2.2.2.1 g.final.length y.2.2.2.2] := (k2.trans k3).own m1 id
 have M2 : Own w3 q2 29 [.slice z.1.1 g.props.length z.1.2,.int .i64 g.states,.slice z.2.1.1 g.init.length z.2.1.2,.slice z.2.2.1.1 g.edges.length z.2.2.1.2,.slice z.2.2.2.1 g.final.length z.2.2.2.2] := k3.own m2 id
 have M3 : Own w3 q3 29 [.slice u.1.1 g.props.length u.1.2,.int .i64 g.states,.slice u.2.1.1 g.init.length u.2.1.2,.slice u.2.2.1.1 g.edges.length u.2.2.1.2,.slice u.2.2.2.1 g.final.length u.2.2.2.2] := m3
 clear m1 m2 m3
 have k03 := k1.trans (k2.trans k3)
 refine ld Aa (v := Fg g y) (Own.all M1) (by rfl) ?_
 refine ld Aa (v := Fg g u) (Own.all M3) (by rfl) ?_
 refine cl Du (Fb (hy w3 k03) (hu w3 k03)) ?_
 rintro _ w4 ⟨rfl,k4⟩
 have k04 := k03.trans k4
 refine ld Aa (v := Fg g z) (Own.all (k4.own M2 id)) (by rfl) ?_
 refine ld Aa (v := Fg g u) (Own.all (k4.own M3 id)) (by rfl) ?_
 refine cl Du (Fb (hz w4 k04) (hu w4 k04)) ?_
 rintro _ w5 ⟨rfl,k5⟩
 have k05 := k04.trans k5
 have M1 := (k4.trans k5).own M1 id
 have M2 := (k4.trans k5).own M2 id
 have h5 := h.kp k05
 have hz5 := k05.size
 refine ld Aa (v := Fg g y) (Own.all M1) (by rfl) ?_
 refine cl Jw (Mw h5 y (by omega) (by omega) (by omega)) ?_
 rintro _ w6 ⟨vT6,vI6,vE6,h6,c6,n6⟩
 have M2 := c6.own M2 (h5.off M2 (.inr (.inr (.inr rfl))))
 have hz6 := c6.size
 refine ld Aa (v := Fg g z) (Own.all M2) (by rfl) ?_
 refine cl Jw (Mw h6 z (by rw [List.length_append]; simp; omega) (by rw [List.length_append]; simp; omega) (by rw [List.length_append]; simp; omega)) ?_
 rintro _ w7 ⟨vT7,vI7,vE7,h7,c7,n7⟩
 have N6 : ∀ k,By b vT6 vI6 vE6 k → By b vT vI vE k ∨ w.heap.size ≤ k := fun k hk => (n6 k hk).imp id fun h => by omega
 refine ⟨rfl,vT7,vI7,vE7,by simpa using h7,((k05.mono fun _ hf => hf.elim).trans c6).newT c7 N6,fun k hk => (n7 k hk).elim (N6 k) fun h => .inr (by omega)⟩
theorem BookV.offS {w w' : World} {base b : Nat} {vT vI vE : Value} {LT LI LE : List Value} {S : Nat → Prop} (h : BookV w base b vT vI vE LT LI LE) (c : Chg S w w') (hS : ∀ g,By b vT vI vE g → ¬ S g) : BookV w' base b vT vI vE LT LI LE :=
 ⟨c.own h.hdr (hS b (.inl rfl)),Ab h.rT c fun g hg => hS g (.inr (.inl hg)),Ab h.rI c fun g hg => hS g (.inr (.inr (.inl hg))),Ab h.rE c fun g hg => hS g (.inr (.inr (.inr hg))),Nat.le_trans h.hb c.size,h.lb,h.lT,h.lI,h.lE⟩
theorem Uf : Af prog 21 = true := by kernel_rfl
def Sj (vs : List Value) : Prop := vs.Pairwise fun a b => ∀ g,a.ownBlock = some g → b.ownBlock ≠ some g
def AllV (α : Type) (f : α → List Value) (size : Nat) (T : TypeId) (base : Nat) (w : World) (vs : List Value) : Prop := ∀ v ∈ vs,∃ xs : List α,w.ownsRow base T size v xs.length (xs.flatMap f) ∧ xs.length < 1000000000000
theorem AllV.chg {α : Type} {f : α → List Value} {size base : Nat} {T : TypeId} {w w' : World} {vs : List Value} {S : Nat → Prop} (h : AllV α f size T base w vs) (hc : Chg S w w') (hs : ∀ g,(∃ cur,w.heap[g]? = some (.cells cur T (0,0))) → ¬ S g) : AllV α f size T base w' vs := fun v hv => by
 obtain ⟨xs,h1,h2⟩ := h v hv
 exact ⟨xs,Ab h1 hc fun g hg => hs g (Az h1 hg),h2⟩
theorem AllV.not {α : Type} {f : α → List Value} {size base : Nat} {T T' : TypeId} {w : World} {vs : List Value} (h : AllV α f size T base w vs) (hT : T ≠ T') : ∀ g,(∃ cur,w.heap[g]? = some (.cells cur T' (0,0))) → ¬ ∃ v ∈ vs,v.ownBlock = some g := fun g ⟨cur,h1⟩ ⟨v,hv,hg⟩ => by
 obtain ⟨xs,h2,-⟩ := h v hv
 obtain ⟨c,h3⟩ := Az h2 hg
 rw [h1] at h3
 injection h3 with h3
 injection h3 with _ h3
 exact hT h3.symm
theorem Yq {w : World} {base base' b : Nat} {vT vI vE : Value} {LT LI LE : List Value} (h : BookV w base b vT vI vE LT LI LE) (hb : base' ≤ w.heap.size) (sT : Sj LT) (sI : Sj LI) (sE : Sj LE)
 (aT : AllV ByteArray Qs 1 9 base' w LT) (aI : AllV Int Qt 1 3 base' w LI) (aE : AllV Edge Edge.cells 4 67 base' w LE) :
 Calls prog 21 [pt b 0].toArray w (Bg fun r w' => r = .bool true ∧ Chg (fun g => base' ≤ g) w w') := by
 obtain ⟨ta,tc,rfl⟩ := Ae h.rT
 obtain ⟨ia,ic,rfl⟩ := Ae h.rI
 obtain ⟨ea,ec,rfl⟩ := Ae h.rE
 have hHx : ∃ H : List Value,H = [Ad,.slice ta LT.length tc,.slice ia LI.length ic,Ad,Ad,.slice ea LE.length ec,Ad,Ad,Ad,Ad,Ad,Ad,Ad] := ⟨_,rfl⟩
 have low : ∀ {α : Type} {f : α → List Value} {size : Nat} {T : TypeId} {W : World} {vs : List Value},AllV α f size T base' W vs → ∀ g,(∃ v ∈ vs,v.ownBlock = some g) → base' ≤ g := fun ha g ⟨v,hv,hg⟩ => by
  obtain ⟨xs,h2,-⟩ := ha v hv
  exact Ah h2 hg
 refine call Aa func21 rfl ntmps21 (by kernel_rfl) ?_
 have C : Chg (fun g => base' ≤ g) w w := Chg.refl _ _
 refine ld Aa (Own.at_ (xs := [Ad]) (o := 0) h.hdr rfl) (by rfl) ?_
 refine cl R8 (Va _) ?_
 rintro _ w0 ⟨rfl,k0⟩
 have h := h.kp k0
 have C := C.newT k0 fun _ hf => hf.elim
 have aT := aT.chg k0 fun _ _ => id
 have aI := aI.chg k0 fun _ _ => id
 have aE := aE.chg k0 fun _ _ => id
 refine ld Aa (Own.at_ (xs := [.slice ta LT.length tc]) (o := 1) h.hdr rfl) (by rfl) ?_
 refine cl R6 (U8 h.rT sT aT (by have := h.lT; omega) (Nat.le_trans hb C.size)) ?_
 rintro _ w1 ⟨rfl,c1⟩
 have hoff : ∀ g,(By b (.slice ta LT.length tc) (.slice ia LI.length ic) (.slice ea LE.length ec) g) → ¬ ∃ v ∈ LT,v.ownBlock = some g := fun g hg ⟨v,hv,hgv⟩ => by
  obtain ⟨xs,h2,-⟩ := aT v hv
  obtain ⟨cur,h3⟩ := Az h2 hgv
  exact h.off h3 (by simp) hg
 have C := C.trans (c1.mono (low aT))
 have aI := aI.chg c1 (aT.not (by decide))
 have aE := aE.chg c1 (aT.not (by decide))
 have h := h.offS c1 hoff
 refine ld Aa (Own.at_ (xs := [.slice ia LI.length ic]) (o := 2) h.hdr rfl) (by rfl) ?_
 refine cl Uc (Xx h.rI sI aI (by have := h.lI; omega) (Nat.le_trans hb C.size)) ?_
 rintro _ w2 ⟨rfl,c2⟩
 have hoff : ∀ g,(By b (.slice ta LT.length tc) (.slice ia LI.length ic) (.slice ea LE.length ec) g) → ¬ ∃ v ∈ LI,v.ownBlock = some g := fun g hg ⟨v,hv,hgv⟩ => by
  obtain ⟨xs,h2,-⟩ := aI v hv
  obtain ⟨cur,h3⟩ := Az h2 hgv
  exact h.off h3 (by simp) hg
 have C := C.trans (c2.mono (low aI))
 have aE := aE.chg c2 (aI.not (by decide))
 have h := h.offS c2 hoff
 refine ld Aa (Own.at_ (xs := [Ad]) (o := 3) h.hdr rfl) (by rfl) ?_
 refine cl R9 (Vb _) ?_
 rintro _ w3 ⟨rfl,k3⟩
 have h := h.kp k3
 have C := C.newT k3 fun _ hf => hf.elim
 have aE := aE.chg k3 fun _ _ => id
 refine ld Aa (Own.at_ (xs := [Ad]) (o := 4) h.hdr rfl) (by rfl) ?_
 refine cl O8 (Rr _) ?_
 rintro _ w4 ⟨rfl,k4⟩
 have h := h.kp k4
 have C := C.newT k4 fun _ hf => hf.elim
 have aE := aE.chg k4 fun _ _ => id
 refine ld Aa (Own.at_ (xs := [.slice ea LE.length ec]) (o := 5) h.hdr rfl) (by rfl) ?_
 refine cl R7 (U9 h.rE sE aE (by have := h.lE; omega) (Nat.le_trans hb C.size)) ?_
 rintro _ w5 ⟨rfl,c5⟩
 have hoff : ∀ g,(By b (.slice ta LT.length tc) (.slice ia LI.length ic) (.slice ea LE.length ec) g) → ¬ ∃ v ∈ LE,v.ownBlock = some g := fun g hg ⟨v,hv,hgv⟩ => by
  obtain ⟨xs,h2,-⟩ := aE v hv
  obtain ⟨cur,h3⟩ := Az h2 hgv
  exact h.off h3 (by simp) hg
 have C := C.trans (c5.mono (low aE))
 have h := h.offS c5 hoff
 refine ld Aa (Own.at_ (xs := [Ad]) (o := 6) h.hdr rfl) (by rfl) ?_
 refine cl Pt (Te _) ?_
 rintro _ w6 ⟨rfl,k6⟩
 have h := h.kp k6
 have C := C.newT k6 fun _ hf => hf.elim
 refine ld Aa (Own.at_ (xs := [Ad]) (o := 7) h.hdr rfl) (by rfl) ?_
 refine cl M6 (Pn _) ?_
 rintro _ w7 ⟨rfl,k7⟩
 have h := h.kp k7
 have C := C.newT k7 fun _ hf => hf.elim
 refine ld Aa (Own.at_ (xs := [Ad]) (o := 8) h.hdr rfl) (by rfl) ?_
 refine cl Pv (Th _) ?_
 rintro _ w8 ⟨rfl,k8⟩
 have h := h.kp k8
 have C := C.newT k8 fun _ hf => hf.elim
 refine ld Aa (Own.at_ (xs := [Ad]) (o := 9) h.hdr rfl) (by rfl) ?_
 refine cl Pu (Tf _) ?_
 rintro _ w9 ⟨rfl,k9⟩
 have h := h.kp k9
 have C := C.newT k9 fun _ hf => hf.elim
 refine ld Aa (Own.at_ (xs := [Ad]) (o := 10) h.hdr rfl) (by rfl) ?_
 refine cl Ub (Xw _) ?_
 rintro _ w10 ⟨rfl,k10⟩
 have h := h.kp k10
 have C := C.newT k10 fun _ hf => hf.elim
 refine ld Aa (Own.at_ (xs := [Ad]) (o := 11) h.hdr rfl) (by rfl) ?_
 refine cl R5 (U7 _) ?_
 rintro _ w11 ⟨rfl,k11⟩
 have h := h.kp k11
 have C := C.newT k11 fun _ hf => hf.elim
 refine ld Aa (Own.at_ (xs := [Ad]) (o := 12) h.hdr rfl) (by rfl) ?_
 refine cl M7 (Po _) ?_
 rintro _ w12 ⟨rfl,k12⟩
 have h := h.kp k12
 have C := C.newT k12 fun _ hf => hf.elim
 exact ⟨rfl,C⟩
end Go.Au
namespace Go.Au
open Go.Proofs.Tryz
open Go Go.RowKit
structure Few (g : General) (x : Word) : Prop where
 st : g.states ≤ 60
 ed : g.edges.length ≤ 300
 se : g.sets.length ≤ 6
 pl : x.stem.length + x.loop.length ≤ 30
theorem Xe : Af prog 4 = true := by kernel_rfl
theorem AbU (w : World) (pv iv : Value) (ea sa wa1 wa2 : Option Addr) (ec sc wc1 wc2 : Nat) (g : General) (x : Word) (ls : x.stem.length * 2 ≤ 140737488351232) (ll : x.loop.length * 2 ≤ 140737488351232) :
 Calls prog 4 [.agg #[pv,.int .i64 g.states,iv,.slice ea g.edges.length ec,.slice sa g.sets.length sc],.agg #[.slice wa1 x.stem.length wc1,.slice wa2 x.loop.length wc2]].toArray w (Bg fun r w' => Kp w w' ∧ ∃ b : Bool,r = .bool b ∧ (b = true → Few g x)) := by
 refine call Aa func4 rfl ntmps4 (by kernel_rfl) ?_
 refine nd fun p w1 e1 s1 k1 m1 => ?_
 have m1 : Own w1 p 27 [pv,.int .i64 g.states,iv,.slice ea g.edges.length ec,.slice sa g.sets.length sc] := m1
 refine nd fun q w2 e2 s2 k2 m2 => ?_
 have m2 : Own w2 q 33 [.slice wa1 x.stem.length wc1,.slice wa2 x.loop.length wc2] := m2
 have m1 := k2.own m1 id
 have k12 := k1.trans k2
 refine ld Aa (Own.at_ (xs := [.slice wa1 x.stem.length wc1]) (o := 0) m2 rfl) (by rfl) ?_
 refine ld Aa (Own.at_ (xs := [.slice wa2 x.loop.length wc2]) (o := 1) m2 rfl) (by rfl) ?_
 refine aw (by omega) (by omega) ?_
 refine ld Aa (Own.at_ (xs := [.int .i64 g.states]) (o := 1) m1 rfl) (by rfl) ?_
 refine sp (fun h1 => ?_) (fun h1 => ?_)
 · refine ld Aa (Own.at_ (xs := [.slice ea g.edges.length ec]) (o := 3) m1 rfl) (by rfl) ?_
   refine sp (fun h2 => ?_) (fun h2 => ?_)
   · refine ld Aa (Own.at_ (xs := [.slice sa g.sets.length sc]) (o := 4) m1 rfl) (by rfl) ?_
     refine sp (fun h3 => ?_) (fun h3 => ?_)
     · refine sp (fun h4 => ?_) (fun h4 => ?_)
       · exact ⟨k12,true,rfl,fun _ => ⟨h1,by omega,by omega,by omega⟩⟩
       · exact ⟨k12,false,rfl,fun h => by cases h⟩
     · exact ⟨k12,false,rfl,fun h => by cases h⟩
   · exact ⟨k12,false,rfl,fun h => by cases h⟩
 · exact ⟨k12,false,rfl,fun h => by cases h⟩
def sw (e : Edge) : Edge := ⟨e.frm,e.to,e.no,e.must⟩
abbrev E3 : List Value := [.int .i64 (-7),.int .i64 0,.int .u16 0,.int .u16 0,.int .i64 (-8),.int .i64 0,.int .u16 0,.int .u16 0]
structure StR (w0 : World) (b : Nat) (new : List Value) (W W' : World) : Prop where
 chg : Chg (fun k => k = b) W W'
 row : b < W.heap.size → W'.heap[b]? = W.heap[b]? ∨ W'.heap[b]? = some (.cells new.toArray 67 (0,0))
theorem Ch (w0 : World) (b : Nat) (new : List Value) : Pre (StR w0 b new) :=
 ⟨fun h => ⟨h.mono fun _ hf => hf.elim,fun hl => .inl (h.block b hl id)⟩,fun h g => ⟨h.chg.trans g.chg,fun hl => by
   rcases g.row (Nat.lt_of_lt_of_le hl h.chg.size) with a | a
   · rcases h.row hl with c | c
     · exact .inl (a.trans c)
     · exact .inr (a.trans c)
   · exact .inr a⟩⟩
theorem Cw {w w' : World} {b : Nat} {t : TypeId} {cs : List Value} (h : Own w b t cs) (he : w'.heap[b]? = w.heap[b]?) : Own w' b t cs := he.trans h
def Sm (L : List Edge) (i : Nat) (e : Edge) : List Value := Gk (L.flatMap Edge.cells ++ E3) (0 + i * 4 + 2) [.int .u16 e.no]
theorem Rg (L : List Edge) (i : Nat) (e : Edge) : (Sm L i e).length = (L.flatMap Edge.cells ++ E3).length := Gj _ _ _
theorem Ix {L : List Edge} {n i k : Nat} (h : L.length = n) (hi : i < n) (hk : k < 4) : 0 + i * 4 + k + 1 ≤ (L.flatMap Edge.cells ++ E3).length := by
 rw [List.length_append,An (size := 4) (fun _ => rfl)]; omega
theorem I6 {w : World} {b i : Nat} {L : List Edge} {e : Edge} {v : Value} (h : Own w b 67 (L.flatMap Edge.cells ++ E3)) (hi : L[i]? = some e) (k : Nat) (hv : e.cells[k]? = some v) : w.rangeAt b (0 + i * 4 + k) [v] := by
 have hk := (List.getElem?_eq_some_iff.1 hv).1
 have hk : k < 4 := hk
 have hg := Gl (f := Edge.cells) (size := 4) (fun _ => rfl) L i e hi k hk
 refine Own.one h (i := i * 4 + k) ?_ (by omega)
 rw [List.getElem?_append_left (List.getElem?_eq_some_iff.1 (hg.trans hv)).1,hg,hv]
theorem Re : ∀ {L : List Edge} {i : Nat} {e : Edge},L[i]? = some e → Gk (Sm L i e) (0 + i * 4 + 3) [.int .u16 e.must] = (L.set i (sw e)).flatMap Edge.cells ++ E3
 | [],i,e,h => by simp at h
 | a :: r,0,e,h => by simp at h; subst h; rfl
 | a :: r,i + 1,e,h => by
  have ih := Re (L := r) (i := i) (e := e) (by simpa using h)
  unfold Sm at ih ⊢
  simp only [Gk] at ih ⊢
  rw [show 0 + (i + 1) * 4 + 2 = (0 + i * 4 + 2) + 1 + 1 + 1 + 1 by omega,show 0 + (i + 1) * 4 + 3 = (0 + i * 4 + 3) + 1 + 1 + 1 + 1 by omega]
  simp only [List.flatMap_cons,Edge.cells,List.cons_append,List.nil_append,List.set_cons_succ] at ih ⊢
  rw [ih]
theorem Rc {es : List Edge} {i : Nat} (hi : i < es.length) : ((es.take i).map sw ++ es.drop i).set i (sw es[i]) = (es.take (i + 1)).map sw ++ es.drop (i + 1) := by
 have h1 : i - ((es.take i).map sw).length = 0 := by rw [List.length_map,List.length_take]; omega
 rw [List.set_append_right _ _ (by rw [List.length_map,List.length_take]; omega),h1,List.drop_eq_getElem_cons hi,List.take_succ_eq_append_getElem hi,List.map_append,List.set_cons_zero,List.append_assoc]
 rfl
theorem Rf (es : List Edge) : (es.take es.length).map sw ++ es.drop es.length = es.map sw := by simp
theorem Sq {es : List Edge} (h : ∀ e ∈ es,e.wf) : ∀ e ∈ es.map sw,e.wf := fun e he => by
 obtain ⟨a,ha,rfl⟩ := List.mem_map.1 he
 obtain ⟨h1,h2,h3,h4⟩ := h a ha
 exact ⟨h3,h4,h1,h2⟩
theorem Uy {α : Type} (f : α → α) {l : List α} {i : Nat} (hi : i ≤ l.length) : ((l.take i).map f ++ l.drop i).length = l.length := by rw [List.length_append,List.length_map,List.length_take,List.length_drop]; omega
theorem Uz {α : Type} (f : α → α) {l : List α} {i : Nat} (hi : i < l.length) : ((l.take i).map f ++ l.drop i)[i]? = some l[i] := by
 have h1 : i - ((l.take i).map f).length = 0 := by rw [List.length_map,List.length_take]; omega
 rw [List.getElem?_append_right (by rw [List.length_map,List.length_take]; omega),h1,List.drop_eq_getElem_cons hi]
 rfl
section
variable {lo hi : Nat} {w w' : World} {p i e s : Value}
theorem LentRows.chgT {S : Nat → Prop} {v : Value} {xss : List (List Int)} (h : LentRows lo hi w v xss) (hc : Chg S w w') (hs : ∀ b t cs,Own w b t cs → t = 23 ∨ t = 3 → ¬ S b) : LentRows lo hi w' v xss := by
 obtain ⟨b,vs,b77,hv,h1,h2,h3,h4,h5,h6,h7,h8⟩ := h
 exact ⟨b,vs,b77,hv,h1,h2,hc.own h3 (hs b _ _ h3 (.inl rfl)),h4,h5,hc.own h6 (hs b77 _ _ h6 (.inr rfl)),h7,fun i x hx => by
  obtain ⟨u,g1,g2,g3⟩ := h8 i x hx
  exact ⟨u,g1,g2.chgT hc fun b cs hb => hs b _ _ hb (.inr rfl),g3⟩⟩
theorem Glent.swap {g : General} {xe : Nat} {L : List Edge} (h : Glent lo hi w p i (.slice (some ⟨xe,0,none⟩) g.edges.length (g.edges.length + 2)) s g) (hL : L.length = g.edges.length) (hw : ∀ x ∈ L,x.wf) (hc : Chg (fun k => k = xe) w w') (m : Own w' xe 67 (L.flatMap Edge.cells ++ E3)) :
 Glent lo hi w' p i (.slice (some ⟨xe,0,none⟩) g.edges.length (g.edges.length + 2)) s { g with edges := L } := by
 obtain ⟨b,he,h1,h2,m0⟩ := id h.edges
 cases he
 have hne : ∀ b t cs,Own w b t cs → t ≠ 67 → ¬ b = xe := fun b t cs hb ht => A2 hb m0 ht
 exact ⟨h.props.chgT hc fun b cs hb => hne b _ _ hb (by decide),h.init.chgT hc fun b cs hb => hne b _ _ hb (by decide),⟨xe,by show _ = Value.slice _ L.length (L.length + 2); rw [hL],h1,h2,m⟩,hw,h.sets.chgT hc fun b t cs hb ht => hne b t cs hb (by rcases ht with rfl | rfl <;> decide)⟩
theorem Blent.swap {g : Buchi} {xe : Nat} {L : List Edge} (h : Blent lo hi w p i (.slice (some ⟨xe,0,none⟩) g.edges.length (g.edges.length + 2)) s g) (hL : L.length = g.edges.length) (hw : ∀ x ∈ L,x.wf) (hc : Chg (fun k => k = xe) w w') (m : Own w' xe 67 (L.flatMap Edge.cells ++ E3)) :
 Blent lo hi w' p i (.slice (some ⟨xe,0,none⟩) g.edges.length (g.edges.length + 2)) s { g with edges := L } := by
 obtain ⟨b,he,h1,h2,m0⟩ := id h.edges
 cases he
 have hne : ∀ b t cs,Own w b t cs → t ≠ 67 → ¬ b = xe := fun b t cs hb ht => A2 hb m0 ht
 exact ⟨h.props.chgT hc fun b cs hb => hne b _ _ hb (by decide),h.init.chgT hc fun b cs hb => hne b _ _ hb (by decide),⟨xe,by show _ = Value.slice _ L.length (L.length + 2); rw [hL],h1,h2,m⟩,hw,h.final.chgT hc fun b cs hb => hne b _ _ hb (by decide)⟩
theorem Glent.toV {g : General} (h : Glent lo hi w p i e s g) (lp : g.props.length < 4611686018427387904) (li : g.init.length < 4611686018427387904) (le : g.edges.length < 4611686018427387904) (ls : g.sets.length < 4611686018427387904) : GenV lo hi w p i e s g :=
 ⟨h.props.row (fun _ => rfl),h.init.row (fun _ => rfl),(h.edges.row (size := 4) (fun _ => rfl)).and h.wf,h.sets.row.rows,lp,li,le,ls⟩
theorem Blent.toV {g : Buchi} (h : Blent lo hi w p i e s g) (lp : g.props.length < 4611686018427387904) (li : g.init.length < 4611686018427387904) (le : g.edges.length < 4611686018427387904) (ls : g.final.length < 4611686018427387904) : BuchiV lo hi w p i e s g :=
 ⟨h.props.row (fun _ => rfl),h.init.row (fun _ => rfl),(h.edges.row (size := 4) (fun _ => rfl)).and h.wf,h.final.row (fun _ => rfl),lp,li,le,ls⟩
end
end Go.Au
namespace Go.Au
open Go.Proofs.Tryz
open Go Go.RowKit Go.MapKept
def Z2 : Buchi := { props := [],states := 0,init := [],edges := [],final := [] }
def G2 (ok : Bool) (g : Buchi) : Buchi := if ok = true then g else Z2
structure SmallB (g : Buchi) : Prop where
 wf : ∀ e ∈ g.edges,e.wf
 lp : g.props.length < 1000000000000
 li : g.init.length < 1000000000000
 le : g.edges.length < 1000000000000
 lf : g.final.length < 1000000000000
theorem Sv : SmallB Z2 := ⟨fun e he => (by cases he),by decide,by decide,by decide,by decide⟩
theorem Fv {ok : Bool} {g : Buchi} (h : ok = true → SmallB g) : SmallB (G2 ok g) := by
 cases ok with
 | true => exact h rfl
 | false => exact Sv
theorem uni {w w' : World} {ok : Bool} {g : Buchi} {r : Value} (h : (ok = false ∧ r = .tuple #[.agg #[Ad,.int .i64 0,Ad,Ad,Ad],.int .i64 100]) ∨ (ok = true ∧ ∃ y,r = .tuple #[Fg g y,.int .i64 0] ∧ Ev w.heap.size w' g y)) :
 ∃ y,r = .tuple #[Fg (G2 ok g) y,.int .i64 (Kb ok)] ∧ Ev w.heap.size w' (G2 ok g) y := by
 rcases h with ⟨rfl,rfl⟩ | ⟨rfl,h⟩
 · refine ⟨((none,0),(none,0),(none,0),(none,0)),rfl,?_⟩
   exact ⟨World.ownsRow_nil _ _ _ _,World.ownsRow_nil _ _ _ _,World.ownsRow_nil _ _ _ _,World.ownsRow_nil _ _ _ _,fun g hg => by cases hg⟩
 · exact h
theorem Lv {l : List Int} {n : Nat} (h : l.Nodup) (hr : ∀ s ∈ l,0 ≤ s ∧ s < n) : l.length ≤ n := by
 have h3 := A8 (l := l) (r := (List.range n).map fun (i : Nat) => (i : Int)) h fun s hs' => by
  have := hr s hs'
  exact List.mem_map.2 ⟨s.toNat,by rw [List.mem_range]; omega,by omega⟩
 simpa using h3
theorem Kc {props : List ByteArray} {init : List Int} {sets : List (List Int)} {fr : Int → List Edge} {N m : Nat} (hM : Made props init sets fr N) (hw : ∀ s,∀ e ∈ fr s,e.wf) (hm : ∀ s,(fr s).length ≤ m) (hp : props.length < 1000000000000) (hi : init.length < 1000000000000) (hN : N < 1000000000000) (hNm : N * m < 1000000000000) : SmallB (Cf props init sets fr N) := by
 refine ⟨AbC hM hw,hp,?_,Nat.lt_of_le_of_lt (Z7 hm) hNm,?_⟩
 · show (A9 init).2.length < _
   rw [Bf hM.nd]
   simpa using hi
 · exact Nat.lt_of_le_of_lt (Ff (sets := sets) (L0 := (A9 init).1) hm N).2 hN
theorem P6 {g : General} (h : Al g = true) (hw : ∀ e ∈ g.edges,e.wf) (h1 : g.states ≤ 60) (h2 : g.edges.length ≤ 300) (h3 : g.sets.length ≤ 6) : SmallB (Db g) := by
 have hp : g.props.length ≤ 8 := C2 h
 have hG := Good.of h
 have h0 := hG.s0
 have hN : g.states.toNat * max g.sets.length 1 ≤ 60 * 6 := Nat.mul_le_mul (by omega) (by omega)
 have hNm : g.states.toNat * max g.sets.length 1 * 300 ≤ (60 * 6) * 300 := Nat.mul_le_mul hN (Nat.le_refl _)
 refine Kc (Yg h) (fun s e he => hw e (List.mem_filter.1 he).1) (m := 300) (fun s => Nat.le_trans (List.length_filter_le _ _) h2) (by omega) ?_ (by omega) (by omega)
 have := Lv (n := g.states.toNat) (Bu h).1 fun s hs => by have := hG.init s hs; omega
 omega
theorem Nz {g : Buchi} (h : Al g.general = true) (hw : ∀ e ∈ g.edges,e.wf) (h1 : g.states ≤ 60) (h2 : g.edges.length ≤ 300) : SmallB (D6 g) := by
 have hp : g.props.length ≤ 8 := C2 h
 have hG := Good.of h
 have h0 : 0 ≤ g.states := hG.s0
 have hnd : g.init.Nodup := (Bu h).1
 have hini : ∀ s ∈ g.init,0 ≤ s ∧ s < (g.states.toNat : Nat) := fun s hs => by have h3 := hG.init s hs; have h4 : s < g.states := h3.2; omega
 have hto : ∀ e ∈ g.edges,0 ≤ e.to ∧ e.to < (g.states.toNat : Nat) := fun e he => by have h3 := hG.edges e he; have h4 : e.to < g.states := h3.2.2.2; omega
 have hM : Made g.props g.init [] (Aj g.edges) (g.states.toNat * 1) := Rw (sets := []) hnd hini fun s e he => hto e (List.mem_filter.1 he).1
 have hS := Kc hM (fun s e he => hw e (List.mem_filter.1 he).1) (m := 300) (fun s => Nat.le_trans (List.length_filter_le _ _) h2) (by omega) (by have := Lv hnd hini; omega) (by omega) (by omega)
 have hb := Ui (g := g) hini hnd hto
 exact ⟨hS.wf,hS.lp,hS.li,hS.le,by
  show (Ea _ _ _).length < _
  have := L2 g.final (Jf g.states.toNat g) (Jf g.states.toNat g).length
  have := hb.1
  omega⟩
theorem N0 {a b : Buchi} (h : Bx a b = true) (hwa : ∀ e ∈ a.edges,e.wf) (hwb : ∀ e ∈ b.edges,e.wf) (h1 : a.states ≤ 60) (h2 : b.states ≤ 60) (h3 : a.edges.length ≤ 300) (h4 : b.edges.length ≤ 300) : SmallB (Dq a b) := by
 unfold Bx at h
 simp only [Bool.and_eq_true] at h
 obtain ⟨⟨hA,hB⟩,-⟩ := h
 have hp : a.props.length ≤ 8 := C2 hA
 have gA := Good.of hA
 have gB := Good.of hB
 have a0 : 0 ≤ a.states := gA.s0
 have b0 : 0 ≤ b.states := gB.s0
 have iA : ∀ s ∈ a.init,0 ≤ s ∧ s < (a.states.toNat : Nat) := fun s hs => by have : 0 ≤ s ∧ s < a.states := gA.init s hs; omega
 have iB : ∀ s ∈ b.init,0 ≤ s ∧ s < (b.states.toNat : Nat) := fun s hs => by have : 0 ≤ s ∧ s < b.states := gB.init s hs; omega
 have hNN : a.states.toNat * b.states.toNat ≤ 60 * 60 := Nat.mul_le_mul (by omega) (by omega)
 have hM := Wa hA hB
 have hfl : ∀ s,(Tv b.states.toNat a.edges b.edges s).length ≤ 300 * 300 := fun s => Nat.le_trans (R1 _ _ _ _) (Nat.mul_le_mul h3 h4)
 have hNm : a.states.toNat * b.states.toNat * 2 * (300 * 300) ≤ (60 * 60 * 2) * (300 * 300) := Nat.mul_le_mul (by omega) (Nat.le_refl _)
 refine Kc hM (fun s e he => ?_) hfl (by omega) ?_ (by omega) (by omega)
 · obtain ⟨x',-,y',-,-,-,-,rfl⟩ := frP_mem.1 he
   exact Tp _ _ _ _
 · have := Lv (n := a.states.toNat * b.states.toNat) hM.nd (Fy iA iB)
   omega
theorem OutV.bvS {base : Nat} {w : World} {g : Buchi} {y : Wi} (h : Ev base w g y) (hs : SmallB g) : BuchiV 0 w.heap.size w (.slice y.1.1 g.props.length y.1.2) (.slice y.2.1.1 g.init.length y.2.1.2) (.slice y.2.2.1.1 g.edges.length y.2.2.1.2) (.slice y.2.2.2.1 g.final.length y.2.2.2.2) g := OutV.bv h hs.wf hs.lp hs.li hs.le hs.lf
theorem O1 {w : World} {pv iv ev sv : Value} {g : General} (hv : GenV 0 w.heap.size w pv iv ev sv g) (h1 : g.states ≤ 60) (h2 : g.edges.length ≤ 300) (h3 : g.sets.length ≤ 6) :
 Calls prog 9 [.agg #[pv,.int .i64 g.states,iv,ev,sv]].toArray w (Bg fun r w' => Kp w w' ∧ ∃ y,r = .tuple #[Fg (G2 (Al g) (Db g)) y,.int .i64 (Kb (Al g))] ∧ Ev w.heap.size w' (G2 (Al g) (Db g)) y) := by
 have hN : g.states.toNat * max g.sets.length 1 ≤ 60 * 6 := Nat.mul_le_mul (by omega) (by omega)
 refine (Z5 hv (by omega) (by omega) (by omega)).mono fun en w' hr => ?_
 cases en with
 | returned v => exact ⟨hr.1,uni hr.2⟩
 | _ => exact hr.elim
theorem Qc {w : World} {pv iv ev sv : Value} {g : General} (hv : GenV 0 w.heap.size w pv iv ev sv g) (h1 : g.states ≤ 60) (h2 : g.edges.length ≤ 300) (h3 : g.sets.length ≤ 6) :
 Calls prog 17 [.agg #[pv,.int .i64 g.states,iv,ev,sv]].toArray w (Bg fun r w' => Kp w w' ∧ ∃ y,r = .tuple #[Fg (G2 (Al g) (Db g)) y,.int .i64 (Kb (Al g))] ∧ Ev w.heap.size w' (G2 (Al g) (Db g)) y) := by
 have hN : g.states.toNat * max g.sets.length 1 ≤ 60 * 6 := Nat.mul_le_mul (by omega) (by omega)
 refine (Zn hv (by omega) (by omega) (by omega)).mono fun en w' hr => ?_
 cases en with
 | returned v => exact ⟨hr.1,uni hr.2⟩
 | _ => exact hr.elim
theorem Rb {w : World} {pv iv ev fv : Value} {g : Buchi} (hv : BuchiV 0 w.heap.size w pv iv ev fv g) (h1 : g.states ≤ 60) (h2 : g.edges.length ≤ 300) :
 Calls prog 10 [.agg #[pv,.int .i64 g.states,iv,ev,fv]].toArray w (Bg fun r w' => Kp w w' ∧ ∃ y,r = .tuple #[Fg (G2 (Al g.general) (D6 g)) y,.int .i64 (Kb (Al g.general))] ∧ Ev w.heap.size w' (G2 (Al g.general) (D6 g)) y) := by
 refine (AaL hv (by omega) (by omega)).mono fun en w' hr => ?_
 cases en with
 | returned v => exact ⟨hr.1,uni hr.2⟩
 | _ => exact hr.elim
theorem S5 {w : World} {pv iv ev fv : Value} {g : Buchi} (hv : BuchiV 0 w.heap.size w pv iv ev fv g) (h1 : g.states ≤ 60) (h2 : g.edges.length ≤ 300) :
 Calls prog 18 [.agg #[pv,.int .i64 g.states,iv,ev,fv]].toArray w (Bg fun r w' => Kp w w' ∧ ∃ y,r = .tuple #[Fg (G2 (Al g.general) (D6 g)) y,.int .i64 (Kb (Al g.general))] ∧ Ev w.heap.size w' (G2 (Al g.general) (D6 g)) y) := by
 refine (AaS hv (by omega) (by omega)).mono fun en w' hr => ?_
 cases en with
 | returned v => exact ⟨hr.1,uni hr.2⟩
 | _ => exact hr.elim
theorem Se {w : World} {pva iva eva fva pvb ivb evb fvb : Value} {a b : Buchi} (hv : BuchiV 0 w.heap.size w pva iva eva fva a) (hu : BuchiV 0 w.heap.size w pvb ivb evb fvb b) (h1 : a.states ≤ 60) (h2 : b.states ≤ 60) (h3 : a.edges.length ≤ 300) (h4 : b.edges.length ≤ 300) :
 Calls prog 11 [.agg #[pva,.int .i64 a.states,iva,eva,fva],.agg #[pvb,.int .i64 b.states,ivb,evb,fvb]].toArray w (Bg fun r w' => Kp w w' ∧ ∃ y,r = .tuple #[Fg (G2 (Bx a b) (Dq a b)) y,.int .i64 (Kb (Bx a b))] ∧ Ev w.heap.size w' (G2 (Bx a b) (Dq a b)) y) := by
 have hNN : a.states.toNat * b.states.toNat ≤ 60 * 60 := Nat.mul_le_mul (by omega) (by omega)
 have hEE : a.edges.length * b.edges.length ≤ 300 * 300 := Nat.mul_le_mul h3 h4
 have hMM : (a.states.toNat * b.states.toNat * 2 + 1) * (a.edges.length * b.edges.length) ≤ (60 * 60 * 2 + 1) * (300 * 300) := Nat.mul_le_mul (by omega) hEE
 refine (AbG hv hu (by omega) (by omega) (by omega) (by omega)).mono fun en w' hr => ?_
 cases en with
 | returned v => exact ⟨hr.1,uni hr.2⟩
 | _ => exact hr.elim
theorem Tc {w : World} {pva iva eva fva pvb ivb evb fvb : Value} {a b : Buchi} (hv : BuchiV 0 w.heap.size w pva iva eva fva a) (hu : BuchiV 0 w.heap.size w pvb ivb evb fvb b) (h1 : a.states ≤ 60) (h2 : b.states ≤ 60) (h3 : a.edges.length ≤ 300) (h4 : b.edges.length ≤ 300) :
 Calls prog 19 [.agg #[pva,.int .i64 a.states,iva,eva,fva],.agg #[pvb,.int .i64 b.states,ivb,evb,fvb]].toArray w (Bg fun r w' => Kp w w' ∧ ∃ y,r = .tuple #[Fg (G2 (Bx a b) (Dq a b)) y,.int .i64 (Kb (Bx a b))] ∧ Ev w.heap.size w' (G2 (Bx a b) (Dq a b)) y) := by
 refine (AaU hv hu (by omega) (by omega) h1 h2).mono fun en w' hr => ?_
 cases en with
 | returned v => exact ⟨hr.1,uni hr.2⟩
 | _ => exact hr.elim
theorem Vz : Af prog 14 = true := by kernel_rfl
def TS (lo1 hi1 lo2 hi2 lo3 hi3 k : Nat) : Prop := (lo1 ≤ k ∧ k < hi1) ∨ (lo2 ≤ k ∧ k < hi2) ∨ (lo3 ≤ k ∧ k < hi3)
def swG (g : General) : General := { g with edges := g.edges.map sw }
def Pm (g : Buchi) : Buchi := { g with edges := g.edges.map sw }
structure TinyG (g : General) : Prop where
 wf : ∀ e ∈ g.edges,e.wf
 lp : g.props.length < 4611686018427387904
 li : g.init.length < 4611686018427387904
 ls : g.sets.length ≤ 6
 st : g.states ≤ 60
 ed : g.edges.length ≤ 300
structure TinyB (g : Buchi) : Prop where
 wf : ∀ e ∈ g.edges,e.wf
 lp : g.props.length < 4611686018427387904
 li : g.init.length < 4611686018427387904
 lf : g.final.length < 4611686018427387904
 st : g.states ≤ 60
 ed : g.edges.length ≤ 300
theorem TinyG.sw {g : General} (h : TinyG g) : TinyG (swG g) := ⟨Sq h.wf,h.lp,h.li,h.ls,h.st,by show (g.edges.map _).length ≤ 300; rw [List.length_map]; exact h.ed⟩
theorem TinyB.sw {g : Buchi} (h : TinyB g) : TinyB (Pm g) := ⟨Sq h.wf,h.lp,h.li,h.lf,h.st,by show (g.edges.map _).length ≤ 300; rw [List.length_map]; exact h.ed⟩
set_option maxHeartbeats 8000000 in
theorem Y8 {w : World} {lo1 hi1 lo2 hi2 lo3 hi3 : Nat} {gp gi ge gs xp xi xe xf yp yi ye yf : Value} {g : General} {a b : Buchi} (hg : Glent lo1 hi1 w gp gi ge gs g) (ha : Blent lo2 hi2 w xp xi xe xf a) (hb : Blent lo3 hi3 w yp yi ye yf b)
 (h12 : hi1 ≤ lo2) (h23 : hi2 ≤ lo3) (h3 : hi3 ≤ w.heap.size) (tg : TinyG g) (ta : TinyB a) (tb : TinyB b) :
 Calls prog 14 [.agg #[gp,.int .i64 g.states,gi,ge,gs],.agg #[xp,.int .i64 a.states,xi,xe,xf],.agg #[yp,.int .i64 b.states,yi,ye,yf]].toArray w (Bg fun r w' => r = .bool true ∧ Chg (TS lo1 hi1 lo2 hi2 lo3 hi3) w w' ∧
  Glent lo1 hi1 w' gp gi ge gs (swG g) ∧ Blent lo2 hi2 w' xp xi xe xf (Pm a) ∧ Blent lo3 hi3 w' yp yi ye yf (Pm b)) := by
 obtain ⟨pg,rfl,-⟩ := id hg.props
 obtain ⟨ig,rfl,-⟩ := id hg.init
 obtain ⟨eg,rfl,lg1,lg2,mg0⟩ := id hg.edges
 obtain ⟨sg,vsg,b77,rfl,-⟩ := id hg.sets
 obtain ⟨pa,rfl,-⟩ := id ha.props
 obtain ⟨ia,rfl,-⟩ := id ha.init
 obtain ⟨ea,rfl,la1,la2,ma0⟩ := id ha.edges
 obtain ⟨fa,rfl,-⟩ := id ha.final
 obtain ⟨pb,rfl,-⟩ := id hb.props
 obtain ⟨ib,rfl,-⟩ := id hb.init
 obtain ⟨eb,rfl,lb1,lb2,mb0⟩ := id hb.edges
 obtain ⟨fb,rfl,-⟩ := id hb.final
 have hedg := tg.ed
 have heda := ta.ed
 have hedb := tb.ed
 refine call Aa func14 rfl ntmps14 (by kernel_rfl) ?_
 refine nd fun bg w1 e1 z1 k1 n1 => ?_
 refine nd fun ba w2 e2 z2 k2 n2 => ?_
 refine nd fun bb w3 e3 z3 k3 n3 => ?_
 have mgB : Own w3 bg 27 [.slice (some ⟨pg,0,none⟩) g.props.length (g.props.length + 2),.int .i64 g.states,.slice (some ⟨ig,0,none⟩) g.init.length (g.init.length + 2),.slice (some ⟨eg,0,none⟩) g.edges.length (g.edges.length + 2),.slice (some ⟨sg,0,none⟩) g.sets.length (g.sets.length + 1)] := (k2.trans k3).own n1 id
 have maB : Own w3 ba 29 [.slice (some ⟨pa,0,none⟩) a.props.length (a.props.length + 2),.int .i64 a.states,.slice (some ⟨ia,0,none⟩) a.init.length (a.init.length + 2),.slice (some ⟨ea,0,none⟩) a.edges.length (a.edges.length + 2),.slice (some ⟨fa,0,none⟩) a.final.length (a.final.length + 2)] := k3.own n2 id
 have mbB : Own w3 bb 29 [.slice (some ⟨pb,0,none⟩) b.props.length (b.props.length + 2),.int .i64 b.states,.slice (some ⟨ib,0,none⟩) b.init.length (b.init.length + 2),.slice (some ⟨eb,0,none⟩) b.edges.length (b.edges.length + 2),.slice (some ⟨fb,0,none⟩) b.final.length (b.final.length + 2)] := n3
 clear n1 n2 n3
 have k03 := k1.trans (k2.trans k3)
 have hg3 := hg.chg k03 fun _ _ _ h => h
 have ha3 := ha.chg k03 fun _ _ _ h => h
 have hb3 := hb.chg k03 fun _ _ _ h => h
 have mgE := k03.own mg0 id
 have z03 := k03.size
 refine loop Aa (σ := Nat) (fun i => [(3,pt bg 0),(4,pt ba 0),(5,pt bb 0),(7,.int .i64 i)]) (fun i w' => Chg (fun k => k = eg) w3 w' ∧ i ≤ g.edges.length ∧ Own w' eg 67 (((g.edges.take i).map sw ++ g.edges.drop i).flatMap Edge.cells ++ E3)) (fun i => g.edges.length - i) 0
  ⟨rfl,rfl,rfl,rfl,trivial⟩ ⟨Chg.refl _ _,by omega,by simpa using mgE⟩ ?_
 rintro i e0g w'g ⟨c',hi,mEi⟩
 have mG : Own w'g bg 27 [.slice (some ⟨pg,0,none⟩) g.props.length (g.props.length + 2),.int .i64 g.states,.slice (some ⟨ig,0,none⟩) g.init.length (g.init.length + 2),.slice (some ⟨eg,0,none⟩) g.edges.length (g.edges.length + 2),.slice (some ⟨sg,0,none⟩) g.sets.length (g.sets.length + 1)] := c'.own mgB (A2 mgB mgE (by decide))
 refine ld Aa (Own.at_ (xs := [.slice (some ⟨eg,0,none⟩) g.edges.length (g.edges.length + 2)]) (o := 3) mG rfl) (by rfl) ?_
 refine sp (fun hlt => ?_) (fun hge => ?_)
 · have hi' : i < g.edges.length := by omega
   have hLl : ((g.edges.take i).map sw ++ g.edges.drop i).length = g.edges.length := Uy _ hi
   have hLi : ((g.edges.take i).map sw ++ g.edges.drop i)[i]? = some g.edges[i] := Uz _ hi'
   refine Vw Aa mixed 21 [0,1,2,6,7,8,9,10,11,12,13,14,15,16,17,18,19,20,3,4,5] (by kernel_rfl) (StR w'g eg (Sm ((g.edges.take i).map sw ++ g.edges.drop i) i g.edges[i])) (Ch _ _ _) (fun W => W.heap[eg]? = w'g.heap[eg]?) 20 rfl ?_
   have keepG : ∀ W,StR w'g eg (Sm ((g.edges.take i).map sw ++ g.edges.drop i) i g.edges[i]) w'g W → Own W bg 27 [.slice (some ⟨pg,0,none⟩) g.props.length (g.props.length + 2),.int .i64 g.states,.slice (some ⟨ig,0,none⟩) g.init.length (g.init.length + 2),.slice (some ⟨eg,0,none⟩) g.edges.length (g.edges.length + 2),.slice (some ⟨sg,0,none⟩) g.sets.length (g.sets.length + 1)] := fun W h => h.chg.own mG (A2 mG mEi (by decide))
   conv => whnf
   refine Fc (Ch _ _ _) Aa rfl rfl (fun W h _ _ => Own.at_ (xs := [.slice (some ⟨eg,0,none⟩) g.edges.length (g.edges.length + 2)]) (o := 3) (keepG W h) rfl) (by rfl) fun _ => ?_
   conv => whnf
   refine Fc (Ch _ _ _) Aa rfl rfl (fun W h _ _ => Own.at_ (xs := [.slice (some ⟨eg,0,none⟩) g.edges.length (g.edges.length + 2)]) (o := 3) (keepG W h) rfl) (by rfl) fun _ => ?_
   conv => whnf
   refine ne ⟨by omega,by omega⟩ ?_
   conv => whnf
   refine Fc (Ch _ _ _) Aa rfl rfl (fun W h _ hU => by rw [Int.toNat_natCast]; exact I6 (Cw mEi (hU rfl)) hLi 3 rfl) (by rfl) fun _ => ?_
   conv => whnf
   refine Fc (Ch _ _ _) Aa rfl rfl (fun W h _ _ => Own.at_ (xs := [.slice (some ⟨eg,0,none⟩) g.edges.length (g.edges.length + 2)]) (o := 3) (keepG W h) rfl) (by rfl) fun _ => ?_
   conv => whnf
   refine ne ⟨by omega,by omega⟩ ?_
   conv => whnf
   refine Fc (Ch _ _ _) Aa rfl rfl (fun W h _ hU => by rw [Int.toNat_natCast]; exact I6 (Cw mEi (hU rfl)) hLi 2 rfl) (by rfl) fun _ => ?_
   conv => whnf
   refine ne ⟨by omega,by omega⟩ ?_
   conv => whnf
   refine stu (fun W => Own W eg 67 (Sm ((g.edges.take i).map sw ++ g.edges.drop i) i g.edges[i])) rfl (fun W W' h hS => (hS.row h.lt).elim (fun h' => Cw h h') id) (fun W h _ hU => ?_) fun D20 hD20 => ?_
   · refine st Aa (Cw mEi (hU rfl)) rfl (by rw [Int.toNat_natCast]; exact Ix hLl hi' (by decide)) rfl fun w2 s2 k2 m2 => ?_
     have m2 : Own w2 eg 67 (Sm ((g.edges.take i).map sw ++ g.edges.drop i) i g.edges[i]) := by rw [Int.toNat_natCast] at m2; exact m2
     exact ⟨⟨k2,fun _ => .inr m2⟩,m2⟩
   conv => whnf
   refine Fc (Ch _ _ _) Aa rfl rfl (fun W h _ _ => Own.at_ (xs := [.slice (some ⟨eg,0,none⟩) g.edges.length (g.edges.length + 2)]) (o := 3) (keepG W h) rfl) (by rfl) fun _ => ?_
   conv => whnf
   intro W hS hd
   have m1 := hD20 W (hd 20)
   refine ne ⟨by omega,by omega⟩ ?_
   refine st Aa m1 rfl (by rw [Int.toNat_natCast,Rg]; exact Ix hLl hi' (by decide)) rfl ?_
   intro w3 s3 k3 m3
   rw [Int.toNat_natCast] at m3
   refine aw (by omega) (by omega) ?_
   refine again (i + 1) ⟨rfl,rfl,rfl,rfl,trivial⟩ ⟨(c'.trans hS.chg).trans k3,by omega,?_⟩ (by omega)
   have m3 : Own w3 eg 67 (Gk (Sm ((g.edges.take i).map sw ++ g.edges.drop i) i g.edges[i]) (0 + i * 4 + 3) [.int .u16 g.edges[i].must]) := m3
   rw [Re hLi,Rc hi'] at m3
   exact m3
 have hin : i = g.edges.length := by omega
 subst hin
 rw [Rf] at mEi
 have zg := c'.size
 have hg4 : Glent lo1 hi1 w'g _ _ _ _ (swG g) := hg3.swap (L := g.edges.map sw) (by rw [List.length_map]) (Sq hg3.wf) c' mEi
 have mgB := c'.own mgB (A2 mgB mgE (by decide))
 have maB := c'.own maB (A2 maB mgE (by decide))
 have mbB := c'.own mbB (A2 mbB mgE (by decide))
 have ha4 := ha3.chg c' fun k h1 h2 hk => by have hk : k = eg := hk; omega
 have hb4 := hb3.chg c' fun k h1 h2 hk => by have hk : k = eg := hk; omega
 have C4 : Chg (TS lo1 hi1 lo2 hi2 lo3 hi3) w w'g := (k03.mono fun _ hf => hf.elim).trans (c'.mono fun k hk => by have hk : k = eg := hk; show (lo1 ≤ k ∧ k < hi1) ∨ (lo2 ≤ k ∧ k < hi2) ∨ (lo3 ≤ k ∧ k < hi3); omega)
 have maE : Own w'g ea 67 (a.edges.flatMap Edge.cells ++ E3) := c'.own (k03.own ma0 id) (by omega)
 have mbE0 : Own w'g eb 67 (b.edges.flatMap Edge.cells ++ E3) := c'.own (k03.own mb0 id) (by omega)
 clear c' mEi hi hge
 refine loop Aa (σ := Nat) (fun i => [(3,pt bg 0),(4,pt ba 0),(5,pt bb 0),(8,.int .i64 i)]) (fun i w' => Chg (fun k => k = ea) w'g w' ∧ i ≤ a.edges.length ∧ Own w' ea 67 (((a.edges.take i).map sw ++ a.edges.drop i).flatMap Edge.cells ++ E3)) (fun i => a.edges.length - i) 0
  ⟨rfl,rfl,rfl,rfl,trivial⟩ ⟨Chg.refl _ _,by omega,by simpa using maE⟩ ?_
 rintro i e0a w'a ⟨c',hi,mEi⟩
 have mG : Own w'a ba 29 [.slice (some ⟨pa,0,none⟩) a.props.length (a.props.length + 2),.int .i64 a.states,.slice (some ⟨ia,0,none⟩) a.init.length (a.init.length + 2),.slice (some ⟨ea,0,none⟩) a.edges.length (a.edges.length + 2),.slice (some ⟨fa,0,none⟩) a.final.length (a.final.length + 2)] := c'.own maB (A2 maB maE (by decide))
 refine ld Aa (Own.at_ (xs := [.slice (some ⟨ea,0,none⟩) a.edges.length (a.edges.length + 2)]) (o := 3) mG rfl) (by rfl) ?_
 refine sp (fun hlt => ?_) (fun hge => ?_)
 · have hi' : i < a.edges.length := by omega
   have hLl : ((a.edges.take i).map sw ++ a.edges.drop i).length = a.edges.length := Uy _ hi
   have hLi : ((a.edges.take i).map sw ++ a.edges.drop i)[i]? = some a.edges[i] := Uz _ hi'
   refine Vw Aa mixed 21 [0,1,2,6,7,8,9,10,11,12,13,14,15,16,17,18,19,20,3,4,5] (by kernel_rfl) (StR w'a ea (Sm ((a.edges.take i).map sw ++ a.edges.drop i) i a.edges[i])) (Ch _ _ _) (fun W => W.heap[ea]? = w'a.heap[ea]?) 20 rfl ?_
   have keepG : ∀ W,StR w'a ea (Sm ((a.edges.take i).map sw ++ a.edges.drop i) i a.edges[i]) w'a W → Own W ba 29 [.slice (some ⟨pa,0,none⟩) a.props.length (a.props.length + 2),.int .i64 a.states,.slice (some ⟨ia,0,none⟩) a.init.length (a.init.length + 2),.slice (some ⟨ea,0,none⟩) a.edges.length (a.edges.length + 2),.slice (some ⟨fa,0,none⟩) a.final.length (a.final.length + 2)] := fun W h => h.chg.own mG (A2 mG mEi (by decide))
   conv => whnf
   refine Fc (Ch _ _ _) Aa rfl rfl (fun W h _ _ => Own.at_ (xs := [.slice (some ⟨ea,0,none⟩) a.edges.length (a.edges.length + 2)]) (o := 3) (keepG W h) rfl) (by rfl) fun _ => ?_
   conv => whnf
   refine Fc (Ch _ _ _) Aa rfl rfl (fun W h _ _ => Own.at_ (xs := [.slice (some ⟨ea,0,none⟩) a.edges.length (a.edges.length + 2)]) (o := 3) (keepG W h) rfl) (by rfl) fun _ => ?_
   conv => whnf
   refine ne ⟨by omega,by omega⟩ ?_
   conv => whnf
   refine Fc (Ch _ _ _) Aa rfl rfl (fun W h _ hU => by rw [Int.toNat_natCast]; exact I6 (Cw mEi (hU rfl)) hLi 3 rfl) (by rfl) fun _ => ?_
   conv => whnf
   refine Fc (Ch _ _ _) Aa rfl rfl (fun W h _ _ => Own.at_ (xs := [.slice (some ⟨ea,0,none⟩) a.edges.length (a.edges.length + 2)]) (o := 3) (keepG W h) rfl) (by rfl) fun _ => ?_
   conv => whnf
   refine ne ⟨by omega,by omega⟩ ?_
   conv => whnf
   refine Fc (Ch _ _ _) Aa rfl rfl (fun W h _ hU => by rw [Int.toNat_natCast]; exact I6 (Cw mEi (hU rfl)) hLi 2 rfl) (by rfl) fun _ => ?_
   conv => whnf
   refine ne ⟨by omega,by omega⟩ ?_
   conv => whnf
   refine stu (fun W => Own W ea 67 (Sm ((a.edges.take i).map sw ++ a.edges.drop i) i a.edges[i])) rfl (fun W W' h hS => (hS.row h.lt).elim (fun h' => Cw h h') id) (fun W h _ hU => ?_) fun D20 hD20 => ?_
   · refine st Aa (Cw mEi (hU rfl)) rfl (by rw [Int.toNat_natCast]; exact Ix hLl hi' (by decide)) rfl fun w2 s2 k2 m2 => ?_
     have m2 : Own w2 ea 67 (Sm ((a.edges.take i).map sw ++ a.edges.drop i) i a.edges[i]) := by rw [Int.toNat_natCast] at m2; exact m2
     exact ⟨⟨k2,fun _ => .inr m2⟩,m2⟩
   conv => whnf
   refine Fc (Ch _ _ _) Aa rfl rfl (fun W h _ _ => Own.at_ (xs := [.slice (some ⟨ea,0,none⟩) a.edges.length (a.edges.length + 2)]) (o := 3) (keepG W h) rfl) (by rfl) fun _ => ?_
   conv => whnf
   intro W hS hd
   have m1 := hD20 W (hd 20)
   refine ne ⟨by omega,by omega⟩ ?_
   refine st Aa m1 rfl (by rw [Int.toNat_natCast,Rg]; exact Ix hLl hi' (by decide)) rfl ?_
   intro w3 s3 k3 m3
   rw [Int.toNat_natCast] at m3
   refine aw (by omega) (by omega) ?_
   refine again (i + 1) ⟨rfl,rfl,rfl,rfl,trivial⟩ ⟨(c'.trans hS.chg).trans k3,by omega,?_⟩ (by omega)
   have m3 : Own w3 ea 67 (Gk (Sm ((a.edges.take i).map sw ++ a.edges.drop i) i a.edges[i]) (0 + i * 4 + 3) [.int .u16 a.edges[i].must]) := m3
   rw [Re hLi,Rc hi'] at m3
   exact m3
 have hin : i = a.edges.length := by omega
 subst hin
 rw [Rf] at mEi
 have za := c'.size
 have ha5 : Blent lo2 hi2 w'a _ _ _ _ (Pm a) := ha4.swap (L := a.edges.map sw) (by rw [List.length_map]) (Sq ha4.wf) c' mEi
 have mgB := c'.own mgB (A2 mgB maE (by decide))
 have maB := c'.own maB (A2 maB maE (by decide))
 have mbB := c'.own mbB (A2 mbB maE (by decide))
 have hg5 := hg4.chg c' fun k h1 h2 hk => by have hk : k = ea := hk; omega
 have hb5 := hb4.chg c' fun k h1 h2 hk => by have hk : k = ea := hk; omega
 have C5 : Chg (TS lo1 hi1 lo2 hi2 lo3 hi3) w w'a := C4.trans (c'.mono fun k hk => by have hk : k = ea := hk; show (lo1 ≤ k ∧ k < hi1) ∨ (lo2 ≤ k ∧ k < hi2) ∨ (lo3 ≤ k ∧ k < hi3); omega)
 have mbE : Own w'a eb 67 (b.edges.flatMap Edge.cells ++ E3) := c'.own mbE0 (by omega)
 clear c' mEi hi hge
 refine loop Aa (σ := Nat) (fun i => [(3,pt bg 0),(4,pt ba 0),(5,pt bb 0),(9,.int .i64 i)]) (fun i w' => Chg (fun k => k = eb) w'a w' ∧ i ≤ b.edges.length ∧ Own w' eb 67 (((b.edges.take i).map sw ++ b.edges.drop i).flatMap Edge.cells ++ E3)) (fun i => b.edges.length - i) 0
  ⟨rfl,rfl,rfl,rfl,trivial⟩ ⟨Chg.refl _ _,by omega,by simpa using mbE⟩ ?_
 rintro i e0b w'b ⟨c',hi,mEi⟩
 have mG : Own w'b bb 29 [.slice (some ⟨pb,0,none⟩) b.props.length (b.props.length + 2),.int .i64 b.states,.slice (some ⟨ib,0,none⟩) b.init.length (b.init.length + 2),.slice (some ⟨eb,0,none⟩) b.edges.length (b.edges.length + 2),.slice (some ⟨fb,0,none⟩) b.final.length (b.final.length + 2)] := c'.own mbB (A2 mbB mbE (by decide))
 refine ld Aa (Own.at_ (xs := [.slice (some ⟨eb,0,none⟩) b.edges.length (b.edges.length + 2)]) (o := 3) mG rfl) (by rfl) ?_
 refine sp (fun hlt => ?_) (fun hge => ?_)
 · have hi' : i < b.edges.length := by omega
   have hLl : ((b.edges.take i).map sw ++ b.edges.drop i).length = b.edges.length := Uy _ hi
   have hLi : ((b.edges.take i).map sw ++ b.edges.drop i)[i]? = some b.edges[i] := Uz _ hi'
   refine Vw Aa mixed 21 [0,1,2,6,7,8,9,10,11,12,13,14,15,16,17,18,19,20,3,4,5] (by kernel_rfl) (StR w'b eb (Sm ((b.edges.take i).map sw ++ b.edges.drop i) i b.edges[i])) (Ch _ _ _) (fun W => W.heap[eb]? = w'b.heap[eb]?) 20 rfl ?_
   have keepG : ∀ W,StR w'b eb (Sm ((b.edges.take i).map sw ++ b.edges.drop i) i b.edges[i]) w'b W → Own W bb 29 [.slice (some ⟨pb,0,none⟩) b.props.length (b.props.length + 2),.int .i64 b.states,.slice (some ⟨ib,0,none⟩) b.init.length (b.init.length + 2),.slice (some ⟨eb,0,none⟩) b.edges.length (b.edges.length + 2),.slice (some ⟨fb,0,none⟩) b.final.length (b.final.length + 2)] := fun W h => h.chg.own mG (A2 mG mEi (by decide))
   conv => whnf
   refine Fc (Ch _ _ _) Aa rfl rfl (fun W h _ _ => Own.at_ (xs := [.slice (some ⟨eb,0,none⟩) b.edges.length (b.edges.length + 2)]) (o := 3) (keepG W h) rfl) (by rfl) fun _ => ?_
   conv => whnf
   refine Fc (Ch _ _ _) Aa rfl rfl (fun W h _ _ => Own.at_ (xs := [.slice (some ⟨eb,0,none⟩) b.edges.length (b.edges.length + 2)]) (o := 3) (keepG W h) rfl) (by rfl) fun _ => ?_
   conv => whnf
   refine ne ⟨by omega,by omega⟩ ?_
   conv => whnf
   refine Fc (Ch _ _ _) Aa rfl rfl (fun W h _ hU => by rw [Int.toNat_natCast]; exact I6 (Cw mEi (hU rfl)) hLi 3 rfl) (by rfl) fun _ => ?_
   conv => whnf
   refine Fc (Ch _ _ _) Aa rfl rfl (fun W h _ _ => Own.at_ (xs := [.slice (some ⟨eb,0,none⟩) b.edges.length (b.edges.length + 2)]) (o := 3) (keepG W h) rfl) (by rfl) fun _ => ?_
   conv => whnf
   refine ne ⟨by omega,by omega⟩ ?_
   conv => whnf
   refine Fc (Ch _ _ _) Aa rfl rfl (fun W h _ hU => by rw [Int.toNat_natCast]; exact I6 (Cw mEi (hU rfl)) hLi 2 rfl) (by rfl) fun _ => ?_
   conv => whnf
   refine ne ⟨by omega,by omega⟩ ?_
   conv => whnf
   refine stu (fun W => Own W eb 67 (Sm ((b.edges.take i).map sw ++ b.edges.drop i) i b.edges[i])) rfl (fun W W' h hS => (hS.row h.lt).elim (fun h' => Cw h h') id) (fun W h _ hU => ?_) fun D20 hD20 => ?_
   · refine st Aa (Cw mEi (hU rfl)) rfl (by rw [Int.toNat_natCast]; exact Ix hLl hi' (by decide)) rfl fun w2 s2 k2 m2 => ?_
     have m2 : Own w2 eb 67 (Sm ((b.edges.take i).map sw ++ b.edges.drop i) i b.edges[i]) := by rw [Int.toNat_natCast] at m2; exact m2
     exact ⟨⟨k2,fun _ => .inr m2⟩,m2⟩
   conv => whnf
   refine Fc (Ch _ _ _) Aa rfl rfl (fun W h _ _ => Own.at_ (xs := [.slice (some ⟨eb,0,none⟩) b.edges.length (b.edges.length + 2)]) (o := 3) (keepG W h) rfl) (by rfl) fun _ => ?_
   conv => whnf
   intro W hS hd
   have m1 := hD20 W (hd 20)
   refine ne ⟨by omega,by omega⟩ ?_
   refine st Aa m1 rfl (by rw [Int.toNat_natCast,Rg]; exact Ix hLl hi' (by decide)) rfl ?_
   intro w3 s3 k3 m3
   rw [Int.toNat_natCast] at m3
   refine aw (by omega) (by omega) ?_
   refine again (i + 1) ⟨rfl,rfl,rfl,rfl,trivial⟩ ⟨(c'.trans hS.chg).trans k3,by omega,?_⟩ (by omega)
   have m3 : Own w3 eb 67 (Gk (Sm ((b.edges.take i).map sw ++ b.edges.drop i) i b.edges[i]) (0 + i * 4 + 3) [.int .u16 b.edges[i].must]) := m3
   rw [Re hLi,Rc hi'] at m3
   exact m3
 have hin : i = b.edges.length := by omega
 subst hin
 rw [Rf] at mEi
 have zb := c'.size
 have hb6 : Blent lo3 hi3 w'b _ _ _ _ (Pm b) := hb5.swap (L := b.edges.map sw) (by rw [List.length_map]) (Sq hb5.wf) c' mEi
 have mgB := c'.own mgB (A2 mgB mbE (by decide))
 have maB := c'.own maB (A2 maB mbE (by decide))
 have mbB := c'.own mbB (A2 mbB mbE (by decide))
 have hg6 := hg5.chg c' fun k h1 h2 hk => by have hk : k = eb := hk; omega
 have ha6 := ha5.chg c' fun k h1 h2 hk => by have hk : k = eb := hk; omega
 have C6 : Chg (TS lo1 hi1 lo2 hi2 lo3 hi3) w w'b := C5.trans (c'.mono fun k hk => by have hk : k = eb := hk; show (lo1 ≤ k ∧ k < hi1) ∨ (lo2 ≤ k ∧ k < hi2) ∨ (lo3 ≤ k ∧ k < hi3); omega)
 clear c' mEi hi hge
 have Tg := tg.sw
 have Ta := ta.sw
 have Tb := tb.sw
 have GV := hg6.toV (by have := Tg.lp; omega) Tg.li (by have := Tg.ed; omega) (by have := Tg.ls; omega)
 have AV := ha6.toV (by have := Ta.lp; omega) Ta.li (by have := Ta.ed; omega) Ta.lf
 have BV := hb6.toV (by have := Tb.lp; omega) Tb.li (by have := Tb.ed; omega) Tb.lf
 have zb6 : hi1 ≤ w'b.heap.size ∧ hi2 ≤ w'b.heap.size ∧ hi3 ≤ w'b.heap.size := by have := C6.size; omega
 have GV : ∀ W,Kp w'b W → GenV 0 W.heap.size W _ _ _ _ (swG g) := fun W k => GV.chg k (Nat.zero_le _) (by have := k.size; omega)
 have AV : ∀ W,Kp w'b W → BuchiV 0 W.heap.size W _ _ _ _ (Pm a) := fun W k => AV.chg k (Nat.zero_le _) (by have := k.size; omega)
 have BV : ∀ W,Kp w'b W → BuchiV 0 W.heap.size W _ _ _ _ (Pm b) := fun W k => BV.chg k (Nat.zero_le _) (by have := k.size; omega)
 have sgl : (g.edges.map sw).length = g.edges.length := List.length_map _
 have sal : (a.edges.map sw).length = a.edges.length := List.length_map _
 have sbl : (b.edges.map sw).length = b.edges.length := List.length_map _
 have fin : ∀ {W : World},Kp w'b W → (Chg (TS lo1 hi1 lo2 hi2 lo3 hi3) w W ∧ Glent lo1 hi1 W _ _ _ _ (swG g) ∧ Blent lo2 hi2 W _ _ _ _ (Pm a) ∧ Blent lo3 hi3 W _ _ _ _ (Pm b)) := fun k =>
  ⟨C6.trans (k.mono fun _ hf => hf.elim),hg6.chg k fun _ _ _ h => h,ha6.chg k fun _ _ _ h => h,hb6.chg k fun _ _ _ h => h⟩
 have k60 : Kp w'b w'b := Chg.refl _ _
 have dS := Fv (ok := Al (swG g)) (g := Db (swG g)) fun h => P6 h Tg.wf Tg.st Tg.ed Tg.ls
 have tS := Fv (ok := Al (Pm a).general) (g := D6 (Pm a)) fun h => Nz h Ta.wf Ta.st Ta.ed
 have pS := Fv (ok := Bx (Pm a) (Pm b)) (g := Dq (Pm a) (Pm b)) fun h => N0 h Ta.wf Tb.wf Ta.st Tb.st Ta.ed Tb.ed
 have RDx : ∃ RD,RD = G2 (Al (swG g)) (Db (swG g)) := ⟨_,rfl⟩
 obtain ⟨RD,hRD⟩ := RDx
 have RTx : ∃ RT,RT = G2 (Al (Pm a).general) (D6 (Pm a)) := ⟨_,rfl⟩
 obtain ⟨RT,hRT⟩ := RTx
 have RPx : ∃ RP,RP = G2 (Bx (Pm a) (Pm b)) (Dq (Pm a) (Pm b)) := ⟨_,rfl⟩
 obtain ⟨RP,hRP⟩ := RPx
 rw [← hRD] at dS
 rw [← hRT] at tS
 rw [← hRP] at pS
 refine ld Aa (v := .agg #[.slice (some ⟨pg,0,none⟩) g.props.length (g.props.length + 2),.int .i64 g.states,.slice (some ⟨ig,0,none⟩) g.init.length (g.init.length + 2),.slice (some ⟨eg,0,none⟩) g.edges.length (g.edges.length + 2),.slice (some ⟨sg,0,none⟩) g.sets.length (g.sets.length + 1)]) (Own.all (k60.own mgB id)) (by rfl) ?_
 have hcall := O1 (GV _ k60) Tg.st Tg.ed Tg.ls
 rw [← hRD] at hcall
 refine cl L8 hcall ?_
 rintro _ v0 ⟨q0,y0,rfl,o0⟩
 refine nd fun c0 u0 e'0 z'0 r0 n0 => ?_
 refine st Aa n0 rfl (Nat.le_refl 5) rfl ?_
 intro u'0 z''0 r'0 m0r
 have m0 : Own u'0 c0 29 [.slice y0.1.1 RD.props.length y0.1.2,.int .i64 RD.states,.slice y0.2.1.1 RD.init.length y0.2.1.2,.slice y0.2.2.1.1 RD.edges.length y0.2.2.1.2,.slice y0.2.2.2.1 RD.final.length y0.2.2.2.2] := m0r
 clear m0r n0
 have kk0 := r0.new e'0 r'0
 have P0 := (k60.trans q0).trans kk0
 have V0 := (OutV.bvS o0 dS).chg kk0 (Nat.le_refl _) kk0.size
 refine ld Aa (v := .agg #[.slice (some ⟨pa,0,none⟩) a.props.length (a.props.length + 2),.int .i64 a.states,.slice (some ⟨ia,0,none⟩) a.init.length (a.init.length + 2),.slice (some ⟨ea,0,none⟩) a.edges.length (a.edges.length + 2),.slice (some ⟨fa,0,none⟩) a.final.length (a.final.length + 2)]) (Own.all (P0.own maB id)) (by rfl) ?_
 have hcall := Rb (AV _ P0) Ta.st Ta.ed
 rw [← hRT] at hcall
 refine cl O5 hcall ?_
 rintro _ v1 ⟨q1,y1,rfl,o1⟩
 refine nd fun c1 u1 e'1 z'1 r1 n1 => ?_
 refine st Aa n1 rfl (Nat.le_refl 5) rfl ?_
 intro u'1 z''1 r'1 m1r
 have m1 : Own u'1 c1 29 [.slice y1.1.1 RT.props.length y1.1.2,.int .i64 RT.states,.slice y1.2.1.1 RT.init.length y1.2.1.2,.slice y1.2.2.1.1 RT.edges.length y1.2.2.1.2,.slice y1.2.2.2.1 RT.final.length y1.2.2.2.2] := m1r
 clear m1r n1
 have kk1 := r1.new e'1 r'1
 have P1 := (P0.trans q1).trans kk1
 have V1 := (OutV.bvS o1 tS).chg kk1 (Nat.le_refl _) kk1.size
 have m0 := (q1.trans kk1).own m0 id
 have V0 := V0.chg (q1.trans kk1) (Nat.le_refl _) (q1.trans kk1).size
 refine ld Aa (v := .agg #[.slice (some ⟨pa,0,none⟩) a.props.length (a.props.length + 2),.int .i64 a.states,.slice (some ⟨ia,0,none⟩) a.init.length (a.init.length + 2),.slice (some ⟨ea,0,none⟩) a.edges.length (a.edges.length + 2),.slice (some ⟨fa,0,none⟩) a.final.length (a.final.length + 2)]) (Own.all (P1.own maB id)) (by rfl) ?_
 refine ld Aa (v := .agg #[.slice (some ⟨pb,0,none⟩) b.props.length (b.props.length + 2),.int .i64 b.states,.slice (some ⟨ib,0,none⟩) b.init.length (b.init.length + 2),.slice (some ⟨eb,0,none⟩) b.edges.length (b.edges.length + 2),.slice (some ⟨fb,0,none⟩) b.final.length (b.final.length + 2)]) (Own.all (P1.own mbB id)) (by rfl) ?_
 have hcall := Se (AV _ P1) (BV _ P1) Ta.st Tb.st Ta.ed Tb.ed
 rw [← hRP] at hcall
 refine cl L9 hcall ?_
 rintro _ v2 ⟨q2,y2,rfl,o2⟩
 refine nd fun c2 u2 e'2 z'2 r2 n2 => ?_
 refine st Aa n2 rfl (Nat.le_refl 5) rfl ?_
 intro u'2 z''2 r'2 m2r
 have m2 : Own u'2 c2 29 [.slice y2.1.1 RP.props.length y2.1.2,.int .i64 RP.states,.slice y2.2.1.1 RP.init.length y2.2.1.2,.slice y2.2.2.1.1 RP.edges.length y2.2.2.1.2,.slice y2.2.2.2.1 RP.final.length y2.2.2.2.2] := m2r
 clear m2r n2
 have kk2 := r2.new e'2 r'2
 have P2 := (P1.trans q2).trans kk2
 have V2 := (OutV.bvS o2 pS).chg kk2 (Nat.le_refl _) kk2.size
 have m0 := (q2.trans kk2).own m0 id
 have V0 := V0.chg (q2.trans kk2) (Nat.le_refl _) (q2.trans kk2).size
 have m1 := (q2.trans kk2).own m1 id
 have V1 := V1.chg (q2.trans kk2) (Nat.le_refl _) (q2.trans kk2).size
 refine ld Aa (v := .agg #[.slice (some ⟨pg,0,none⟩) g.props.length (g.props.length + 2),.int .i64 g.states,.slice (some ⟨ig,0,none⟩) g.init.length (g.init.length + 2),.slice (some ⟨eg,0,none⟩) g.edges.length (g.edges.length + 2),.slice (some ⟨sg,0,none⟩) g.sets.length (g.sets.length + 1)]) (Own.all (P2.own mgB id)) (by rfl) ?_
 have hcall := Qc (GV _ P2) Tg.st Tg.ed Tg.ls
 rw [← hRD] at hcall
 refine cl O7 hcall ?_
 rintro _ v3 ⟨q3,y3,rfl,o3⟩
 refine nd fun c3 u3 e'3 z'3 r3 n3 => ?_
 refine st Aa n3 rfl (Nat.le_refl 5) rfl ?_
 intro u'3 z''3 r'3 m3r
 have m3 : Own u'3 c3 29 [.slice y3.1.1 RD.props.length y3.1.2,.int .i64 RD.states,.slice y3.2.1.1 RD.init.length y3.2.1.2,.slice y3.2.2.1.1 RD.edges.length y3.2.2.1.2,.slice y3.2.2.2.1 RD.final.length y3.2.2.2.2] := m3r
 clear m3r n3
 have kk3 := r3.new e'3 r'3
 have P3 := (P2.trans q3).trans kk3
 have V3 := (OutV.bvS o3 dS).chg kk3 (Nat.le_refl _) kk3.size
 have m0 := (q3.trans kk3).own m0 id
 have V0 := V0.chg (q3.trans kk3) (Nat.le_refl _) (q3.trans kk3).size
 have m1 := (q3.trans kk3).own m1 id
 have V1 := V1.chg (q3.trans kk3) (Nat.le_refl _) (q3.trans kk3).size
 have m2 := (q3.trans kk3).own m2 id
 have V2 := V2.chg (q3.trans kk3) (Nat.le_refl _) (q3.trans kk3).size
 refine ld Aa (v := .agg #[.slice (some ⟨pa,0,none⟩) a.props.length (a.props.length + 2),.int .i64 a.states,.slice (some ⟨ia,0,none⟩) a.init.length (a.init.length + 2),.slice (some ⟨ea,0,none⟩) a.edges.length (a.edges.length + 2),.slice (some ⟨fa,0,none⟩) a.final.length (a.final.length + 2)]) (Own.all (P3.own maB id)) (by rfl) ?_
 have hcall := S5 (AV _ P3) Ta.st Ta.ed
 rw [← hRT] at hcall
 refine cl Qy hcall ?_
 rintro _ v4 ⟨q4,y4,rfl,o4⟩
 refine nd fun c4 u4 e'4 z'4 r4 n4 => ?_
 refine st Aa n4 rfl (Nat.le_refl 5) rfl ?_
 intro u'4 z''4 r'4 m4r
 have m4 : Own u'4 c4 29 [.slice y4.1.1 RT.props.length y4.1.2,.int .i64 RT.states,.slice y4.2.1.1 RT.init.length y4.2.1.2,.slice y4.2.2.1.1 RT.edges.length y4.2.2.1.2,.slice y4.2.2.2.1 RT.final.length y4.2.2.2.2] := m4r
 clear m4r n4
 have kk4 := r4.new e'4 r'4
 have P4 := (P3.trans q4).trans kk4
 have V4 := (OutV.bvS o4 tS).chg kk4 (Nat.le_refl _) kk4.size
 have m0 := (q4.trans kk4).own m0 id
 have V0 := V0.chg (q4.trans kk4) (Nat.le_refl _) (q4.trans kk4).size
 have m1 := (q4.trans kk4).own m1 id
 have V1 := V1.chg (q4.trans kk4) (Nat.le_refl _) (q4.trans kk4).size
 have m2 := (q4.trans kk4).own m2 id
 have V2 := V2.chg (q4.trans kk4) (Nat.le_refl _) (q4.trans kk4).size
 have m3 := (q4.trans kk4).own m3 id
 have V3 := V3.chg (q4.trans kk4) (Nat.le_refl _) (q4.trans kk4).size
 refine ld Aa (v := .agg #[.slice (some ⟨pa,0,none⟩) a.props.length (a.props.length + 2),.int .i64 a.states,.slice (some ⟨ia,0,none⟩) a.init.length (a.init.length + 2),.slice (some ⟨ea,0,none⟩) a.edges.length (a.edges.length + 2),.slice (some ⟨fa,0,none⟩) a.final.length (a.final.length + 2)]) (Own.all (P4.own maB id)) (by rfl) ?_
 refine ld Aa (v := .agg #[.slice (some ⟨pb,0,none⟩) b.props.length (b.props.length + 2),.int .i64 b.states,.slice (some ⟨ib,0,none⟩) b.init.length (b.init.length + 2),.slice (some ⟨eb,0,none⟩) b.edges.length (b.edges.length + 2),.slice (some ⟨fb,0,none⟩) b.final.length (b.final.length + 2)]) (Own.all (P4.own mbB id)) (by rfl) ?_
 have hcall := Tc (AV _ P4) (BV _ P4) Ta.st Tb.st Ta.ed Tb.ed
 rw [← hRP] at hcall
 refine cl Qz hcall ?_
 rintro _ v5 ⟨q5,y5,rfl,o5⟩
 refine nd fun c5 u5 e'5 z'5 r5 n5 => ?_
 refine st Aa n5 rfl (Nat.le_refl 5) rfl ?_
 intro u'5 z''5 r'5 m5r
 have m5 : Own u'5 c5 29 [.slice y5.1.1 RP.props.length y5.1.2,.int .i64 RP.states,.slice y5.2.1.1 RP.init.length y5.2.1.2,.slice y5.2.2.1.1 RP.edges.length y5.2.2.1.2,.slice y5.2.2.2.1 RP.final.length y5.2.2.2.2] := m5r
 clear m5r n5
 have kk5 := r5.new e'5 r'5
 have P5 := (P4.trans q5).trans kk5
 have V5 := (OutV.bvS o5 pS).chg kk5 (Nat.le_refl _) kk5.size
 have m0 := (q5.trans kk5).own m0 id
 have V0 := V0.chg (q5.trans kk5) (Nat.le_refl _) (q5.trans kk5).size
 have m1 := (q5.trans kk5).own m1 id
 have V1 := V1.chg (q5.trans kk5) (Nat.le_refl _) (q5.trans kk5).size
 have m2 := (q5.trans kk5).own m2 id
 have V2 := V2.chg (q5.trans kk5) (Nat.le_refl _) (q5.trans kk5).size
 have m3 := (q5.trans kk5).own m3 id
 have V3 := V3.chg (q5.trans kk5) (Nat.le_refl _) (q5.trans kk5).size
 have m4 := (q5.trans kk5).own m4 id
 have V4 := V4.chg (q5.trans kk5) (Nat.le_refl _) (q5.trans kk5).size
 refine ld Aa (v := Fg RD y0) (Own.all m0) (by rfl) ?_
 refine ld Aa (v := Fg RD y3) (Own.all m3) (by rfl) ?_
 refine cl Du (Fb V0 V3) ?_
 rintro _ x0 ⟨rfl,s0⟩
 have kS0 := s0
 refine ld Aa (v := Fg RT y1) (Own.all (kS0.own m1 id)) (by rfl) ?_
 refine ld Aa (v := Fg RT y4) (Own.all (kS0.own m4 id)) (by rfl) ?_
 refine cl Du (Fb (V1.chg kS0 (Nat.le_refl _) kS0.size) (V4.chg kS0 (Nat.le_refl _) kS0.size)) ?_
 rintro _ x1 ⟨rfl,s1⟩
 have kS1 := kS0.trans s1
 refine ld Aa (v := Fg RP y2) (Own.all (kS1.own m2 id)) (by rfl) ?_
 refine ld Aa (v := Fg RP y5) (Own.all (kS1.own m5 id)) (by rfl) ?_
 refine cl Du (Fb (V2.chg kS1 (Nat.le_refl _) kS1.size) (V5.chg kS1 (Nat.le_refl _) kS1.size)) ?_
 rintro _ x2 ⟨rfl,s2⟩
 have kS2 := kS1.trans s2
 refine Dj rfl ?_
 refine Dj rfl ?_
 refine Dj rfl ?_
 exact ⟨rfl,fin (P5.trans kS2)⟩
end Go.Au
namespace Go.Au
open Go.Proofs.Tryz
open Go Go.RowKit
section
variable {W : World}
theorem I2 : Opens prog W 23 (fun cs (xs : List Int) => ∃ v,cs = [v] ∧ Ef 0 W.heap.size W v xs ∧ xs.length * 8 ≤ 140737488351232) :=
 (Gv (size := 1) (B := 8) underlying23 (by kernel_rfl) (by decide) (by kernel_rfl) (by decide) (E1 underlying3)).mono fun cs xs ⟨v,h1,h2,h3⟩ => ⟨v,h1,h2.mono (fun _ _ h => h.1) (Nat.le_refl _) (Nat.le_refl _),h3⟩
theorem Og : Opens prog W 22 (fun cs (xs : List ByteArray) => ∃ v,cs = [v] ∧ Ib 0 W.heap.size W v xs ∧ xs.length * 16 ≤ 140737488351232) :=
 (Gv (size := 1) (B := 16) underlying22 (by kernel_rfl) (by decide) (by kernel_rfl) (by decide) (Rt underlying9)).mono fun cs xs ⟨v,h1,h2,h3⟩ => ⟨v,h1,h2.mono (fun _ _ h => h.1) (Nat.le_refl _) (Nat.le_refl _),h3⟩
theorem X0 : Opens prog W 25 (fun cs (xs : List (List Int)) => ∃ v,cs = [v] ∧ IntRowsB 0 W.heap.size W v xs ∧ xs.length * 24 ≤ 140737488351232) :=
 (Gv (size := 1) (B := 24) underlying25 (by kernel_rfl) (by decide) (by kernel_rfl) (by decide) I2).mono fun cs xs ⟨v,h1,h2,h3⟩ => ⟨v,h1,h2.mono (fun _ x h => h) (Nat.le_refl _) (Nat.le_refl _),h3⟩
theorem AgC {cs : List Value} (h : cs.length = 5) : ∃ a b c d e,cs = [a,b,c,d,e] := by
 match cs,h with
 | [a,b,c,d,e],_ => exact ⟨a,b,c,d,e,rfl⟩
theorem Ai5 {cs : List Value} (h : cs.length = 4) : ∃ a b c d,cs = [a,b,c,d] := by
 match cs,h with
 | [a,b,c,d],_ => exact ⟨a,b,c,d,rfl⟩
theorem Xg : prog.cellsOf 3 = 1 := by kernel_rfl
theorem AbV : prog.cellsOf 65 = 1 := by kernel_rfl
theorem V9 : prog.cellsOf 23 = 1 := by kernel_rfl
theorem Xf : prog.cellsOf 22 = 1 := by kernel_rfl
theorem Xh : prog.cellsOf 24 = 1 := by kernel_rfl
theorem AcF : prog.cellsOf 25 = 1 := by kernel_rfl
theorem X1 : Opens prog W 67 (fun cs (x : Edge) => cs = Edge.cells x ∧ x.wf) := by
 intro H enc fuel base sp hd cs d ps h hw
 obtain ⟨hl,hf⟩ := Ow underlying67 h hw
 have hl : cs.length = 4 := hl.trans (by kernel_rfl)
 obtain ⟨a,b,c,d,rfl⟩ := Ai5 hl
 obtain ⟨x0,h0⟩ := Eq hf 0 0 1 rfl Xg (E1 underlying3)
 obtain ⟨x1,h1⟩ := Eq hf 1 1 1 rfl Xg (E1 underlying3)
 obtain ⟨x2,h2⟩ := Eq hf 2 2 1 rfl AbV (E1 underlying65)
 obtain ⟨x3,h3⟩ := Eq hf 3 3 1 rfl AbV (E1 underlying65)
 simp at h0 h1 h2 h3
 refine ⟨⟨x0,x1,x2,x3⟩,by simp [Edge.cells,h0,h1,h2,h3],h2.2.1,Int.lt_add_one_of_le h2.2.2,h3.2.1,Int.lt_add_one_of_le h3.2.2⟩
theorem Oh : Opens prog W 24 (fun cs (xs : List Edge) => ∃ v,cs = [v] ∧ C9 0 W.heap.size W v xs ∧ xs.length * 24 ≤ 140737488351232) :=
 (Gv (size := 4) (B := 24) underlying24 (by kernel_rfl) (by decide) (by kernel_rfl) (by decide) X1).mono fun cs xs ⟨v,h1,h2,h3⟩ => ⟨v,h1,h2.mono (fun _ _ h => h) (Nat.le_refl _) (Nat.le_refl _),h3⟩
theorem opensGeneral : Opens prog W 27 (fun cs (g : General) => ∃ p i e s,cs = [p,.int .i64 g.states,i,e,s] ∧ Gin 0 W.heap.size W p i e s g) := by
 intro H enc fuel base sp hd cs d ps h hw
 obtain ⟨hl,hf⟩ := Ow underlying27 h hw
 have hl : cs.length = 5 := hl.trans (by kernel_rfl)
 obtain ⟨a,b,c,d,e,rfl⟩ := AgC hl
 obtain ⟨x0,v0,e0,h0,b0⟩ := Eq hf 0 0 1 rfl Xf Og
 obtain ⟨x1,e1,-⟩ := Eq hf 1 1 1 rfl Xg (E1 underlying3)
 obtain ⟨x2,v2,e2,h2,b2⟩ := Eq hf 2 2 1 rfl V9 I2
 obtain ⟨x3,v3,e3,h3,b3⟩ := Eq hf 3 3 1 rfl Xh Oh
 obtain ⟨x4,v4,e4,h4,b4⟩ := Eq hf 4 4 1 rfl AcF X0
 simp at e0 e1 e2 e3 e4
 subst e0 e1 e2 e3 e4
 exact ⟨⟨x0,x1,x2,x3,x4⟩,_,_,_,_,rfl,h0,h2,h3,h4,b0,b2,b3,b4⟩
theorem opensBuchi : Opens prog W 29 (fun cs (g : Buchi) => ∃ p i e s,cs = [p,.int .i64 g.states,i,e,s] ∧ Bin 0 W.heap.size W p i e s g) := by
 intro H enc fuel base sp hd cs d ps h hw
 obtain ⟨hl,hf⟩ := Ow underlying29 h hw
 have hl : cs.length = 5 := hl.trans (by kernel_rfl)
 obtain ⟨a,b,c,d,e,rfl⟩ := AgC hl
 obtain ⟨x0,v0,e0,h0,b0⟩ := Eq hf 0 0 1 rfl Xf Og
 obtain ⟨x1,e1,-⟩ := Eq hf 1 1 1 rfl Xg (E1 underlying3)
 obtain ⟨x2,v2,e2,h2,b2⟩ := Eq hf 2 2 1 rfl V9 I2
 obtain ⟨x3,v3,e3,h3,b3⟩ := Eq hf 3 3 1 rfl Xh Oh
 obtain ⟨x4,v4,e4,h4,b4⟩ := Eq hf 4 4 1 rfl V9 I2
 simp at e0 e1 e2 e3 e4
 subst e0 e1 e2 e3 e4
 exact ⟨⟨x0,x1,x2,x3,x4⟩,_,_,_,_,rfl,h0,h2,h3,h4,b0,b2,b3,b4⟩
end
end Go.Au
namespace Go.Au
open Go.Proofs.Tryz
open Go Go.RowKit Go.MapKept
def AjD (g : Buchi) (y : Wi) (k : Nat) : Prop := (Value.slice y.1.1 g.props.length y.1.2).ownBlock = some k ∨ (Value.slice y.2.1.1 g.init.length y.2.1.2).ownBlock = some k ∨ (Value.slice y.2.2.1.1 g.edges.length y.2.2.1.2).ownBlock = some k ∨ (Value.slice y.2.2.2.1 g.final.length y.2.2.2.2).ownBlock = some k
theorem Bv {base : Nat} {w w' : World} {g : Buchi} {y : Wi} (h : Ev base w g y) (k : Kp w w') : Ev base w' g y := OutV.chg h k fun _ hf => hf.elim
theorem Kw {base : Nat} {w : World} {g : Buchi} {y : Wi} (h : Ev base w g y) : ∀ k,AjD g y k → base ≤ k ∧ k < w.heap.size := fun k hk => by
 rcases hk with hk | hk | hk | hk
 · exact h.props.lt k hk
 · exact h.rI.lt k hk
 · exact h.rE.lt k hk
 · exact h.rF.lt k hk
theorem Bi {w w' : World} {base bb b : Nat} {vT vI vE : Value} {LT LI LE : List Value} {g : Buchi} {y : Wi} (h : Ev base w g y) (hb : BookV w bb b vT vI vE LT LI LE) (c : Chg (By b vT vI vE) w w') : Ev base w' g y := by
 have key : ∀ {el size v n xs},w.ownsRow base el size v n xs → (el = 9 ∨ el = 3 ∨ el = 67 ∨ el = 29) → w'.ownsRow base el size v n xs := fun ho hel => Ab ho c fun k hk => by
  obtain ⟨cur,hc⟩ := Az ho hk
  exact hb.off hc hel
 exact ⟨key h.props (.inl rfl),key h.rI (.inr (.inl rfl)),key h.rE (.inr (.inr (.inl rfl))),key h.rF (.inr (.inl rfl)),h.sep⟩
theorem Sy (L : List (Value × Nat × Nat)) (h1 : ∀ x ∈ L,∀ k,x.1.ownBlock = some k → x.2.1 ≤ k ∧ k < x.2.2) (h2 : L.Pairwise fun x y => x.2.2 ≤ y.2.1) : Sj (L.map (·.1)) := by
 unfold Sj
 rw [List.pairwise_map]
 refine List.Pairwise.imp_of_mem (fun {x y} hx hy hxy k hk hk' => ?_) h2
 have := h1 x hx k hk
 have := h1 y hy k hk'
 omega
theorem Sx : ∀ (L : List (Value × Value × Nat × Nat)),(∀ x ∈ L,∀ k,x.1.ownBlock = some k → x.2.2.1 ≤ k ∧ k < x.2.2.2) → (∀ x ∈ L,∀ k,x.2.1.ownBlock = some k → x.2.2.1 ≤ k ∧ k < x.2.2.2) → (∀ x ∈ L,∀ k,x.1.ownBlock = some k → x.2.1.ownBlock ≠ some k) → (L.Pairwise fun x y => x.2.2.2 ≤ y.2.2.1) → Sj (L.flatMap fun x => [x.1,x.2.1])
 | [],_,_,_,_ => .nil
 | x :: r,h1,h2,h3,h4 => by
  have hp := List.pairwise_cons.1 h4
  have ih := Sx r (fun y hy => h1 y (List.mem_cons_of_mem _ hy)) (fun y hy => h2 y (List.mem_cons_of_mem _ hy)) (fun y hy => h3 y (List.mem_cons_of_mem _ hy)) hp.2
  have far : ∀ (v u : Value),(∀ k,v.ownBlock = some k → x.2.2.1 ≤ k ∧ k < x.2.2.2) → u ∈ (r.flatMap fun x => [x.1,x.2.1]) → ∀ k,v.ownBlock = some k → u.ownBlock ≠ some k := fun v u hv hu k hk hk' => by
   obtain ⟨y,hy,hu⟩ := List.mem_flatMap.1 hu
   have a1 := hv k hk
   have a2 := hp.1 y hy
   simp only [List.mem_cons,List.not_mem_nil,or_false] at hu
   rcases hu with rfl | rfl
   · have := h1 y (List.mem_cons_of_mem _ hy) k hk'; omega
   · have := h2 y (List.mem_cons_of_mem _ hy) k hk'; omega
  show List.Pairwise _ (x.1 :: x.2.1 :: r.flatMap fun x => [x.1,x.2.1])
  refine .cons (fun u hu => ?_) (.cons (fun u hu => far _ u (h2 x List.mem_cons_self) hu) ih)
  rcases List.mem_cons.1 hu with rfl | hu
  · exact h3 x List.mem_cons_self
  · exact far _ u (h1 x List.mem_cons_self) hu
theorem Zx {lo hi : Nat} {w : World} {p i e s : Value} {g : General} (h : Glent lo hi w p i e s g) (lp : g.props.length * 16 ≤ 140737488351232) (li : g.init.length * 8 ≤ 140737488351232) (le : g.edges.length * 24 ≤ 140737488351232) (ls : g.sets.length * 24 ≤ 140737488351232) : Gin lo hi w p i e s g :=
 ⟨h.props.row (fun _ => rfl),h.init.row (fun _ => rfl),(h.edges.row (size := 4) (fun _ => rfl)).and h.wf,h.sets.row,lp,li,le,ls⟩
theorem Ul {lo hi : Nat} {w : World} {p i e s : Value} {g : Buchi} (h : Blent lo hi w p i e s g) (lp : g.props.length * 16 ≤ 140737488351232) (li : g.init.length * 8 ≤ 140737488351232) (le : g.edges.length * 24 ≤ 140737488351232) (ls : g.final.length * 8 ≤ 140737488351232) : Bin lo hi w p i e s g :=
 ⟨h.props.row (fun _ => rfl),h.init.row (fun _ => rfl),(h.edges.row (size := 4) (fun _ => rfl)).and h.wf,h.final.row (fun _ => rfl),lp,li,le,ls⟩
abbrev Cp (g : General) (F : List Int) : Buchi := { props := g.props,states := g.states,init := g.init,edges := g.edges,final := F }
set_option maxHeartbeats 16000000 in
theorem lawMakes_c {w : World} {pv iv ev sv pv' iv' ev' fv' : Value} {g : General} {b : Buchi} (hg : Gin 0 w.heap.size w pv iv ev sv g) (hb : Bin 0 w.heap.size w pv' iv' ev' fv' b) :
 Calls prog 3 [.agg #[pv,.int .i64 g.states,iv,ev,sv],.agg #[pv',.int .i64 b.states,iv',ev',fv']].toArray w (Bg fun r w' => r = .bool true ∧ Kp w w') := by
 have hobt_ := id hg.props
 obtain ⟨a1,c1,rfl,-⟩ := hobt_
 have hobt_ := id hg.init
 obtain ⟨a2,c2,rfl,-⟩ := hobt_
 have hobt_ := id hg.edges
 obtain ⟨a3,c3,rfl,-⟩ := hobt_
 have hobt_ := id hg.sets
 obtain ⟨a4,c4,rfl,-,hse⟩ := hobt_
 have hobt_ := id hb.props
 obtain ⟨b1,d1,rfl,-⟩ := hobt_
 have hobt_ := id hb.init
 obtain ⟨b2,d2,rfl,-⟩ := hobt_
 have hobt_ := id hb.edges
 obtain ⟨b3,d3,rfl,-⟩ := hobt_
 have hobt_ := id hb.final
 obtain ⟨b4,d4,rfl,-⟩ := hobt_
 refine call Aa func3 rfl ntmps3 (by kernel_rfl) ?_
 refine nd fun qg w1 e1 z1 k1 mg0 => ?_
 refine nd fun qb w2 e2 z2 k2 mb0 => ?_
 have mg : Own w2 qg 27 [.slice a1 g.props.length c1,.int .i64 g.states,.slice a2 g.init.length c2,.slice a3 g.edges.length c3,.slice a4 g.sets.length c4] := k2.own mg0 id
 have mb : Own w2 qb 29 [.slice b1 b.props.length d1,.int .i64 b.states,.slice b2 b.init.length d2,.slice b3 b.edges.length d3,.slice b4 b.final.length d4] := mb0
 clear mg0 mb0
 have K2 := k1.trans k2
 refine ld Aa (v := .agg #[.slice a1 g.props.length c1,.int .i64 g.states,.slice a2 g.init.length c2,.slice a3 g.edges.length c3,.slice a4 g.sets.length c4]) (Own.all mg) (by rfl) ?_
 refine cl Xe (AbU w2 (.slice a1 g.props.length c1) (.slice a2 g.init.length c2) a3 a4 none none c3 c4 0 0 g ⟨[],[]⟩ (by decide) (by decide)) ?_
 rintro _ w3 ⟨k3,f1,rfl,hf1⟩
 cases f1 with
 | false => exact ⟨rfl,K2.trans k3⟩
 | true =>
 have F1 := hf1 rfl
 have mb := k3.own mb id
 have mg := k3.own mg id
 have K3 := K2.trans k3
 refine ld Aa (v := .agg #[.slice b1 b.props.length d1,.int .i64 b.states,.slice b2 b.init.length d2,.slice b3 b.edges.length d3,.slice b4 b.final.length d4]) (Own.all mb) (by rfl) ?_
 refine cl Eu (Gf w3 b1 b2 b3 b4 _ d1 _ d2 _ d3 _ d4 b.states) ?_
 rintro _ w4 ⟨k4,q,-,-,-,rfl⟩
 have K4 := K3.trans k4
 refine cl Xe (AbU w4 (.slice b1 b.props.length d1) (.slice b2 b.init.length d2) b3 (some ⟨q,0,none⟩) none none d3 1 0 0 b.general ⟨[],[]⟩ (by decide) (by decide)) ?_
 rintro _ w5 ⟨k5,f2,rfl,hf2⟩
 have K5 := K4.trans k5
 cases f2 with
 | false => exact ⟨rfl,K5⟩
 | true =>
 have F2 := hf2 rfl
 refine cl Yl (Aa7 w5) ?_
 rintro _ w6 ⟨rfl,k6⟩
 have K6 := K5.trans k6
 have mg := ((k4.trans k5).trans k6).own mg id
 have mb := ((k4.trans k5).trans k6).own mb id
 have z36 := ((k4.trans k5).trans k6).size
 have z23 := k3.size
 refine ld Aa (Own.at_ (xs := [.slice a1 g.props.length c1]) (o := 0) mg rfl) (by rfl) ?_
 refine ld Aa (Own.at_ (xs := [.int .i64 g.states]) (o := 1) mg rfl) (by rfl) ?_
 refine ld Aa (Own.at_ (xs := [.slice a2 g.init.length c2]) (o := 2) mg rfl) (by rfl) ?_
 refine ld Aa (Own.at_ (xs := [.slice a3 g.edges.length c3]) (o := 3) mg rfl) (by rfl) ?_
 refine nd fun qa w7 e7 z7 k7 na => ?_
 refine st Aa na rfl (Nat.le_refl 5) rfl ?_
 intro w8 z8 k8 nb'
 have ma : Own w8 qa 29 [.slice a1 g.props.length c1,.int .i64 g.states,.slice a2 g.init.length c2,.slice a3 g.edges.length c3,Ad] := nb'
 clear na nb'
 have k68 := k7.new e7 k8
 have K8 := K6.trans k68
 have mg := k68.own mg id
 have mb := k68.own mb id
 have tg : TinyG g := ⟨hg.wf,by have := hg.lp; omega,by have := hg.li; omega,F1.se,F1.st,F1.ed⟩
 have tb : TinyB b := ⟨hb.wf,by have := hb.lp; omega,by have := hb.li; omega,by have := hb.ls; omega,F2.st,F2.ed⟩
 have hRDx : ∃ RD,RD = G2 (Al g) (Db g) := ⟨_,rfl⟩
 obtain ⟨RD,hRD⟩ := hRDx
 have dS : SmallB RD := by rw [hRD]; exact Fv fun h => P6 h tg.wf tg.st tg.ed tg.ls
 refine ld Aa (Own.at_ (xs := [.slice a4 g.sets.length c4]) (o := 4) mg rfl) (by rfl) ?_
 refine sp (fun hpos => ?_) (fun hzero => ?_)
 focus
  have hpos' : 0 < g.sets.length := by omega
  have hFx : ∃ F,F = g.sets[0] := ⟨_,rfl⟩
  obtain ⟨F,hF⟩ := hFx
  have hx0 : g.sets[0]? = some F := by rw [hF]; simp
  have hobt_ := hse 0 F hx0
  obtain ⟨bs,os,ha4,-,-,cs,-,hrd,u,rfl,hu,hFl⟩ := hobt_
  have hobt_ := id hu
  obtain ⟨ua,uc,rfl,-⟩ := hobt_
  have mg' := mg
  rewrite [ha4] at mg'
  refine ld Aa (Own.at_ (xs := [.slice (some ⟨bs,os,none⟩) g.sets.length c4]) (o := 4) mg' rfl) (by rfl) ?_
  refine ne ⟨by decide,hpos⟩ ?_
  refine ld Aa (v := .slice ua F.length uc) (K8.range hrd id) (by rfl) ?_
  have ma0 := ma
  refine st Aa ma rfl (show 5 ≤ 5 by decide) rfl ?_
  intro w9 z9 k9 nc
  have ma : Own w9 qa 29 [.slice a1 g.props.length c1,.int .i64 g.states,.slice a2 g.init.length c2,.slice a3 g.edges.length c3,.slice ua F.length uc] := nc
  clear nc mg'
  have K9 : Kp w w9 := K8.newS k9 fun j hj => by have hj : j = qa := hj; have := K6.size; omega
  have mg := k9.own mg (A2 mg (show Own w8 qa 29 _ from ma0) (by decide))
  have mb := k9.own mb (by omega)
  have hFv : ∀ W,Kp w W → Ef 0 w.heap.size W (.slice ua F.length uc) F := fun W k => hu.chg k (fun _ _ _ h => h) (fun _ _ h => h)
  have hzA : qg < w9.heap.size ∧ qb < w9.heap.size ∧ qa < w9.heap.size ∧ w.heap.size ≤ w9.heap.size := ⟨mg.lt,mb.lt,ma.lt,K9.size⟩
 rotate_right
 focus
  have hFx : ∃ F : List Int,F = [] := ⟨_,rfl⟩
  obtain ⟨F,hF0⟩ := hFx
  have hFl : F.length * 8 ≤ 140737488351232 := by rw [hF0]; decide
  have hux : ∃ (ua : Option Addr) (uc : Nat),ua = none ∧ uc = 0 := ⟨_,_,rfl,rfl⟩
  obtain ⟨ua,uc,hua,huc⟩ := hux
  have hln : Ad = .slice ua F.length uc := by rw [hF0,hua,huc]; rfl
  rewrite [hln] at ma
  have K9 := K8
  have hFv : ∀ W,Kp w W → Ef 0 w.heap.size W (.slice ua F.length uc) F := fun W k => by
   refine ⟨ua,uc,rfl,by rw [hF0]; exact Nat.zero_le _,fun i x hx => ?_⟩
   rewrite [hF0] at hx
   simp at hx
  have hzA : qg < w8.heap.size ∧ qb < w8.heap.size ∧ qa < w8.heap.size ∧ w.heap.size ≤ w8.heap.size := ⟨mg.lt,mb.lt,ma.lt,K8.size⟩
  rename World => w9
 all_goals
  have tas := True.intro
  have ta : TinyB (Cp g F) := ⟨hg.wf,tg.lp,tg.li,by show F.length < _; omega,tg.st,tg.ed⟩
  have hbA : ∀ W,Kp w W → Bin 0 w.heap.size W (.slice a1 g.props.length c1) (.slice a2 g.init.length c2) (.slice a3 g.edges.length c3) (.slice ua F.length uc) (Cp g F) := fun W k =>
   ⟨hg.props.chg k (fun _ _ _ h => h) (fun _ _ h => h),hg.init.chg k (fun _ _ _ h => h) (fun _ _ h => h),hg.edges.chg k (fun _ _ _ h => h) (fun _ _ h => h),hFv W k,hg.lp,hg.li,hg.le,hFl⟩
  have hRTx : ∃ RT,RT = G2 (Al (Cp g F).general) (D6 (Cp g F)) := ⟨_,rfl⟩
  obtain ⟨RT,hRT⟩ := hRTx
  have tS : SmallB RT := by rw [hRT]; exact Fv fun h => Nz h ta.wf ta.st ta.ed
  have hRPx : ∃ RP,RP = G2 (Bx (Cp g F) b) (Dq (Cp g F) b) := ⟨_,rfl⟩
  obtain ⟨RP,hRP⟩ := hRPx
  have pS : SmallB RP := by rw [hRP]; exact Fv fun h => N0 h ta.wf tb.wf ta.st tb.st ta.ed tb.ed
  have hA0 : ∃ A0,A0 = w9.heap.size := ⟨_,rfl⟩
  obtain ⟨A0,hA0⟩ := hA0
  refine ld Aa (v := .agg #[.slice a1 g.props.length c1,.int .i64 g.states,.slice a2 g.init.length c2,.slice a3 g.edges.length c3,.slice a4 g.sets.length c4]) (Own.all mg) (by rfl) ?_
  have loG : ∃ B,B = w9.heap.size := ⟨_,rfl⟩
  obtain ⟨BG,hBG⟩ := loG
  have hcall := Pp (hg.chg K9 fun _ _ _ h => h)
  rewrite [← hBG] at hcall
  refine cl M8 hcall ?_
  rintro _ vG ⟨kG,tpG,tiG,teG,tsG,rfl,hG⟩
  have hiG : ∃ T,T = vG.heap.size := ⟨_,rfl⟩
  obtain ⟨TG,hTG⟩ := hiG
  rewrite [← hTG] at hG
  have hobt_ := id hG.props
  obtain ⟨pg,rfl,-⟩ := hobt_
  have hobt_ := id hG.init
  obtain ⟨ig,rfl,-⟩ := hobt_
  have hobt_ := id hG.edges
  obtain ⟨eg,rfl,-⟩ := hobt_
  have hobt_ := id hG.sets
  obtain ⟨sg,vsg,b77,rfl,-⟩ := hobt_
  have KK1 := K9.trans kG
  have mg := kG.own mg id
  have mb := kG.own mb id
  have ma := kG.own ma id
  have zz1 := kG.size
  refine nd fun cg wa2 ea2 za2 ra2 na2 => ?_
  refine st Aa na2 rfl (Nat.le_refl 5) rfl ?_
  intro wb2 zb2 rb2 nb2
  have mcg : Own wb2 cg 27 [.slice (some ⟨pg,0,none⟩) g.props.length (g.props.length + 2),.int .i64 g.states,.slice (some ⟨ig,0,none⟩) g.init.length (g.init.length + 2),.slice (some ⟨eg,0,none⟩) g.edges.length (g.edges.length + 2),.slice (some ⟨sg,0,none⟩) g.sets.length (g.sets.length + 1)] := nb2
  clear na2 nb2
  have kb2 := ra2.new ea2 rb2
  have KK2 := KK1.trans kb2
  have mg := kb2.own mg id
  have mb := kb2.own mb id
  have ma := kb2.own ma id
  have hG := hG.chg kb2 fun _ _ _ h => h
  have zz2 := kb2.size
  refine ld Aa (v := .agg #[.slice a1 g.props.length c1,.int .i64 g.states,.slice a2 g.init.length c2,.slice a3 g.edges.length c3,.slice ua F.length uc]) (Own.all ma) (by rfl) ?_
  have loX : ∃ B,B = wb2.heap.size := ⟨_,rfl⟩
  obtain ⟨BX,hBX⟩ := loX
  have hcall := Mr (hbA _ KK2)
  rewrite [← hBX] at hcall
  refine cl Jv hcall ?_
  rintro _ vX ⟨kX,tpX,tiX,teX,tsX,rfl,hX⟩
  have hiX : ∃ T,T = vX.heap.size := ⟨_,rfl⟩
  obtain ⟨TX,hTX⟩ := hiX
  rewrite [← hTX] at hX
  have hobt_ := id hX.props
  obtain ⟨px,rfl,-⟩ := hobt_
  have hobt_ := id hX.init
  obtain ⟨ix,rfl,-⟩ := hobt_
  have hobt_ := id hX.edges
  obtain ⟨ex,rfl,-⟩ := hobt_
  have hobt_ := id hX.final
  obtain ⟨fx,rfl,-⟩ := hobt_
  have KK3 := KK2.trans kX
  have mg := kX.own mg id
  have mb := kX.own mb id
  have ma := kX.own ma id
  have mcg := kX.own mcg id
  have hG := hG.chg kX fun _ _ _ h => h
  have zz3 := kX.size
  refine nd fun cx wa4 ea4 za4 ra4 na4 => ?_
  refine st Aa na4 rfl (Nat.le_refl 5) rfl ?_
  intro wb4 zb4 rb4 nb4
  have mcx : Own wb4 cx 29 [.slice (some ⟨px,0,none⟩) (Cp g F).props.length ((Cp g F).props.length + 2),.int .i64 (Cp g F).states,.slice (some ⟨ix,0,none⟩) (Cp g F).init.length ((Cp g F).init.length + 2),.slice (some ⟨ex,0,none⟩) (Cp g F).edges.length ((Cp g F).edges.length + 2),.slice (some ⟨fx,0,none⟩) (Cp g F).final.length ((Cp g F).final.length + 2)] := nb4
  clear na4 nb4
  have kb4 := ra4.new ea4 rb4
  have KK4 := KK3.trans kb4
  have mg := kb4.own mg id
  have mb := kb4.own mb id
  have ma := kb4.own ma id
  have mcg := kb4.own mcg id
  have hG := hG.chg kb4 fun _ _ _ h => h
  have hX := hX.chg kb4 fun _ _ _ h => h
  have zz4 := kb4.size
  refine ld Aa (v := .agg #[.slice b1 b.props.length d1,.int .i64 b.states,.slice b2 b.init.length d2,.slice b3 b.edges.length d3,.slice b4 b.final.length d4]) (Own.all mb) (by rfl) ?_
  have loY : ∃ B,B = wb4.heap.size := ⟨_,rfl⟩
  obtain ⟨BY,hBY⟩ := loY
  have hcall := Mr (hb.chg KK4 fun _ _ _ h => h)
  rewrite [← hBY] at hcall
  refine cl Jv hcall ?_
  rintro _ vY ⟨kY,tpY,tiY,teY,tsY,rfl,hY⟩
  have hiY : ∃ T,T = vY.heap.size := ⟨_,rfl⟩
  obtain ⟨TY,hTY⟩ := hiY
  rewrite [← hTY] at hY
  have hobt_ := id hY.props
  obtain ⟨py,rfl,-⟩ := hobt_
  have hobt_ := id hY.init
  obtain ⟨iy,rfl,-⟩ := hobt_
  have hobt_ := id hY.edges
  obtain ⟨ey,rfl,-⟩ := hobt_
  have hobt_ := id hY.final
  obtain ⟨fy,rfl,-⟩ := hobt_
  have KK5 := KK4.trans kY
  have mg := kY.own mg id
  have mb := kY.own mb id
  have ma := kY.own ma id
  have mcg := kY.own mcg id
  have mcx := kY.own mcx id
  have hG := hG.chg kY fun _ _ _ h => h
  have hX := hX.chg kY fun _ _ _ h => h
  have zz5 := kY.size
  refine nd fun cy wa6 ea6 za6 ra6 na6 => ?_
  refine st Aa na6 rfl (Nat.le_refl 5) rfl ?_
  intro wb6 zb6 rb6 nb6
  have mcy : Own wb6 cy 29 [.slice (some ⟨py,0,none⟩) b.props.length (b.props.length + 2),.int .i64 b.states,.slice (some ⟨iy,0,none⟩) b.init.length (b.init.length + 2),.slice (some ⟨ey,0,none⟩) b.edges.length (b.edges.length + 2),.slice (some ⟨fy,0,none⟩) b.final.length (b.final.length + 2)] := nb6
  clear na6 nb6
  have kb6 := ra6.new ea6 rb6
  have KK6 := KK5.trans kb6
  have mg := kb6.own mg id
  have mb := kb6.own mb id
  have ma := kb6.own ma id
  have mcg := kb6.own mcg id
  have mcx := kb6.own mcx id
  have hG := hG.chg kb6 fun _ _ _ h => h
  have hX := hX.chg kb6 fun _ _ _ h => h
  have hY := hY.chg kb6 fun _ _ _ h => h
  have zz6 := kb6.size
  have zl : A0 ≤ BG ∧ BG ≤ TG ∧ TG ≤ cg ∧ cg < BX ∧ BX ≤ TX ∧ TX ≤ cx ∧ cx < BY ∧ BY ≤ TY ∧ TY ≤ cy ∧ qg < A0 ∧ qb < A0 ∧ qa < A0 ∧ w.heap.size ≤ A0 := by omega
  have EV : ∃ E,E = wb6.heap.size := ⟨_,rfl⟩
  obtain ⟨E0,hE0⟩ := EV
  have zE0 : cy < E0 := by omega
  have GV : ∀ {W v1 v2 v3 v4},Glent BG TG W v1 v2 v3 v4 g → TG ≤ W.heap.size → GenV 0 W.heap.size W v1 v2 v3 v4 g := fun h hz => (h.toV tg.lp tg.li (by have := tg.ed; omega) (by have := tg.ls; omega)).chg (Chg.refl _ _) (Nat.zero_le _) hz
  have AV : ∀ {W v1 v2 v3 v4},Blent BX TX W v1 v2 v3 v4 (Cp g F) → TX ≤ W.heap.size → BuchiV 0 W.heap.size W v1 v2 v3 v4 (Cp g F) := fun h hz => (h.toV ta.lp ta.li (by have := ta.ed; omega) ta.lf).chg (Chg.refl _ _) (Nat.zero_le _) hz
  have BV : ∀ {W v1 v2 v3 v4},Blent BY TY W v1 v2 v3 v4 b → TY ≤ W.heap.size → BuchiV 0 W.heap.size W v1 v2 v3 v4 b := fun h hz => (h.toV tb.lp tb.li (by have := tb.ed; omega) tb.lf).chg (Chg.refl _ _) (Nat.zero_le _) hz
  refine ld Aa (v := .agg #[.slice (some ⟨pg,0,none⟩) g.props.length (g.props.length + 2),.int .i64 g.states,.slice (some ⟨ig,0,none⟩) g.init.length (g.init.length + 2),.slice (some ⟨eg,0,none⟩) g.edges.length (g.edges.length + 2),.slice (some ⟨sg,0,none⟩) g.sets.length (g.sets.length + 1)]) (Own.all mcg) (by rfl) ?_
  have bs1 : ∃ B,B = wb6.heap.size := ⟨_,rfl⟩
  obtain ⟨F1,hF1⟩ := bs1
  have hcall := O1 (GV hG (by omega)) tg.st tg.ed tg.ls
  rewrite [← hRD,← hF1] at hcall
  refine cl L8 hcall ?_
  rintro _ v1 ⟨q1,y1,rfl,o1⟩
  have top1 : ∃ T,T = v1.heap.size := ⟨_,rfl⟩
  obtain ⟨T1,hT1⟩ := top1
  have at1 := Kw o1
  rewrite [← hT1] at at1
  have KK7 := KK6.trans q1
  have mg := q1.own mg id
  have mb := q1.own mb id
  have ma := q1.own ma id
  have mcg := q1.own mcg id
  have mcx := q1.own mcx id
  have mcy := q1.own mcy id
  have hG := hG.chg q1 fun _ _ _ h => h
  have hX := hX.chg q1 fun _ _ _ h => h
  have hY := hY.chg q1 fun _ _ _ h => h
  have zz7 := q1.size
  have sz1 : F1 ≤ T1 := by omega
  refine nd fun oc1 wa8 ea8 za8 ra8 na8 => ?_
  refine st Aa na8 rfl (Nat.le_refl 5) rfl ?_
  intro wb8 zb8 rb8 nb8
  have moc1 : Own wb8 oc1 29 [.slice y1.1.1 RD.props.length y1.1.2,.int .i64 RD.states,.slice y1.2.1.1 RD.init.length y1.2.1.2,.slice y1.2.2.1.1 RD.edges.length y1.2.2.1.2,.slice y1.2.2.2.1 RD.final.length y1.2.2.2.2] := nb8
  clear na8 nb8
  have kb8 := ra8.new ea8 rb8
  have KK8 := KK7.trans kb8
  have mg := kb8.own mg id
  have mb := kb8.own mb id
  have ma := kb8.own ma id
  have mcg := kb8.own mcg id
  have mcx := kb8.own mcx id
  have mcy := kb8.own mcy id
  have hG := hG.chg kb8 fun _ _ _ h => h
  have hX := hX.chg kb8 fun _ _ _ h => h
  have hY := hY.chg kb8 fun _ _ _ h => h
  have o1 := Bv o1 kb8
  have zz8 := kb8.size
  refine ld Aa (v := .agg #[.slice (some ⟨pg,0,none⟩) g.props.length (g.props.length + 2),.int .i64 g.states,.slice (some ⟨ig,0,none⟩) g.init.length (g.init.length + 2),.slice (some ⟨eg,0,none⟩) g.edges.length (g.edges.length + 2),.slice (some ⟨sg,0,none⟩) g.sets.length (g.sets.length + 1)]) (Own.all mcg) (by rfl) ?_
  have bs2 : ∃ B,B = wb8.heap.size := ⟨_,rfl⟩
  obtain ⟨F2,hF2⟩ := bs2
  have hcall := O1 (GV hG (by omega)) tg.st tg.ed tg.ls
  rewrite [← hRD,← hF2] at hcall
  refine cl L8 hcall ?_
  rintro _ v2 ⟨q2,y2,rfl,o2⟩
  have top2 : ∃ T,T = v2.heap.size := ⟨_,rfl⟩
  obtain ⟨T2,hT2⟩ := top2
  have at2 := Kw o2
  rewrite [← hT2] at at2
  have KK9 := KK8.trans q2
  have mg := q2.own mg id
  have mb := q2.own mb id
  have ma := q2.own ma id
  have mcg := q2.own mcg id
  have mcx := q2.own mcx id
  have mcy := q2.own mcy id
  have moc1 := q2.own moc1 id
  have hG := hG.chg q2 fun _ _ _ h => h
  have hX := hX.chg q2 fun _ _ _ h => h
  have hY := hY.chg q2 fun _ _ _ h => h
  have o1 := Bv o1 q2
  have zz9 := q2.size
  have sz2 : F2 ≤ T2 := by omega
  refine nd fun oc2 wa10 ea10 za10 ra10 na10 => ?_
  refine st Aa na10 rfl (Nat.le_refl 5) rfl ?_
  intro wb10 zb10 rb10 nb10
  have moc2 : Own wb10 oc2 29 [.slice y2.1.1 RD.props.length y2.1.2,.int .i64 RD.states,.slice y2.2.1.1 RD.init.length y2.2.1.2,.slice y2.2.2.1.1 RD.edges.length y2.2.2.1.2,.slice y2.2.2.2.1 RD.final.length y2.2.2.2.2] := nb10
  clear na10 nb10
  have kb10 := ra10.new ea10 rb10
  have KK10 := KK9.trans kb10
  have mg := kb10.own mg id
  have mb := kb10.own mb id
  have ma := kb10.own ma id
  have mcg := kb10.own mcg id
  have mcx := kb10.own mcx id
  have mcy := kb10.own mcy id
  have moc1 := kb10.own moc1 id
  have hG := hG.chg kb10 fun _ _ _ h => h
  have hX := hX.chg kb10 fun _ _ _ h => h
  have hY := hY.chg kb10 fun _ _ _ h => h
  have o1 := Bv o1 kb10
  have o2 := Bv o2 kb10
  have zz10 := kb10.size
  refine ld Aa (v := .agg #[.slice (some ⟨px,0,none⟩) (Cp g F).props.length ((Cp g F).props.length + 2),.int .i64 (Cp g F).states,.slice (some ⟨ix,0,none⟩) (Cp g F).init.length ((Cp g F).init.length + 2),.slice (some ⟨ex,0,none⟩) (Cp g F).edges.length ((Cp g F).edges.length + 2),.slice (some ⟨fx,0,none⟩) (Cp g F).final.length ((Cp g F).final.length + 2)]) (Own.all mcx) (by rfl) ?_
  have bs3 : ∃ B,B = wb10.heap.size := ⟨_,rfl⟩
  obtain ⟨F3,hF3⟩ := bs3
  have hcall := Rb (AV hX (by omega)) ta.st ta.ed
  rewrite [← hRT,← hF3] at hcall
  refine cl O5 hcall ?_
  rintro _ v3 ⟨q3,y3,rfl,o3⟩
  have top3 : ∃ T,T = v3.heap.size := ⟨_,rfl⟩
  obtain ⟨T3,hT3⟩ := top3
  have at3 := Kw o3
  rewrite [← hT3] at at3
  have KK11 := KK10.trans q3
  have mg := q3.own mg id
  have mb := q3.own mb id
  have ma := q3.own ma id
  have mcg := q3.own mcg id
  have mcx := q3.own mcx id
  have mcy := q3.own mcy id
  have moc1 := q3.own moc1 id
  have moc2 := q3.own moc2 id
  have hG := hG.chg q3 fun _ _ _ h => h
  have hX := hX.chg q3 fun _ _ _ h => h
  have hY := hY.chg q3 fun _ _ _ h => h
  have o1 := Bv o1 q3
  have o2 := Bv o2 q3
  have zz11 := q3.size
  have sz3 : F3 ≤ T3 := by omega
  refine nd fun oc3 wa12 ea12 za12 ra12 na12 => ?_
  refine st Aa na12 rfl (Nat.le_refl 5) rfl ?_
  intro wb12 zb12 rb12 nb12
  have moc3 : Own wb12 oc3 29 [.slice y3.1.1 RT.props.length y3.1.2,.int .i64 RT.states,.slice y3.2.1.1 RT.init.length y3.2.1.2,.slice y3.2.2.1.1 RT.edges.length y3.2.2.1.2,.slice y3.2.2.2.1 RT.final.length y3.2.2.2.2] := nb12
  clear na12 nb12
  have kb12 := ra12.new ea12 rb12
  have KK12 := KK11.trans kb12
  have mg := kb12.own mg id
  have mb := kb12.own mb id
  have ma := kb12.own ma id
  have mcg := kb12.own mcg id
  have mcx := kb12.own mcx id
  have mcy := kb12.own mcy id
  have moc1 := kb12.own moc1 id
  have moc2 := kb12.own moc2 id
  have hG := hG.chg kb12 fun _ _ _ h => h
  have hX := hX.chg kb12 fun _ _ _ h => h
  have hY := hY.chg kb12 fun _ _ _ h => h
  have o1 := Bv o1 kb12
  have o2 := Bv o2 kb12
  have o3 := Bv o3 kb12
  have zz12 := kb12.size
  refine ld Aa (v := .agg #[.slice (some ⟨px,0,none⟩) (Cp g F).props.length ((Cp g F).props.length + 2),.int .i64 (Cp g F).states,.slice (some ⟨ix,0,none⟩) (Cp g F).init.length ((Cp g F).init.length + 2),.slice (some ⟨ex,0,none⟩) (Cp g F).edges.length ((Cp g F).edges.length + 2),.slice (some ⟨fx,0,none⟩) (Cp g F).final.length ((Cp g F).final.length + 2)]) (Own.all mcx) (by rfl) ?_
  have bs4 : ∃ B,B = wb12.heap.size := ⟨_,rfl⟩
  obtain ⟨F4,hF4⟩ := bs4
  have hcall := Rb (AV hX (by omega)) ta.st ta.ed
  rewrite [← hRT,← hF4] at hcall
  refine cl O5 hcall ?_
  rintro _ v4 ⟨q4,y4,rfl,o4⟩
  have top4 : ∃ T,T = v4.heap.size := ⟨_,rfl⟩
  obtain ⟨T4,hT4⟩ := top4
  have at4 := Kw o4
  rewrite [← hT4] at at4
  have KK13 := KK12.trans q4
  have mg := q4.own mg id
  have mb := q4.own mb id
  have ma := q4.own ma id
  have mcg := q4.own mcg id
  have mcx := q4.own mcx id
  have mcy := q4.own mcy id
  have moc1 := q4.own moc1 id
  have moc2 := q4.own moc2 id
  have moc3 := q4.own moc3 id
  have hG := hG.chg q4 fun _ _ _ h => h
  have hX := hX.chg q4 fun _ _ _ h => h
  have hY := hY.chg q4 fun _ _ _ h => h
  have o1 := Bv o1 q4
  have o2 := Bv o2 q4
  have o3 := Bv o3 q4
  have zz13 := q4.size
  have sz4 : F4 ≤ T4 := by omega
  refine nd fun oc4 wa14 ea14 za14 ra14 na14 => ?_
  refine st Aa na14 rfl (Nat.le_refl 5) rfl ?_
  intro wb14 zb14 rb14 nb14
  have moc4 : Own wb14 oc4 29 [.slice y4.1.1 RT.props.length y4.1.2,.int .i64 RT.states,.slice y4.2.1.1 RT.init.length y4.2.1.2,.slice y4.2.2.1.1 RT.edges.length y4.2.2.1.2,.slice y4.2.2.2.1 RT.final.length y4.2.2.2.2] := nb14
  clear na14 nb14
  have kb14 := ra14.new ea14 rb14
  have KK14 := KK13.trans kb14
  have mg := kb14.own mg id
  have mb := kb14.own mb id
  have ma := kb14.own ma id
  have mcg := kb14.own mcg id
  have mcx := kb14.own mcx id
  have mcy := kb14.own mcy id
  have moc1 := kb14.own moc1 id
  have moc2 := kb14.own moc2 id
  have moc3 := kb14.own moc3 id
  have hG := hG.chg kb14 fun _ _ _ h => h
  have hX := hX.chg kb14 fun _ _ _ h => h
  have hY := hY.chg kb14 fun _ _ _ h => h
  have o1 := Bv o1 kb14
  have o2 := Bv o2 kb14
  have o3 := Bv o3 kb14
  have o4 := Bv o4 kb14
  have zz14 := kb14.size
  refine ld Aa (v := .agg #[.slice (some ⟨px,0,none⟩) (Cp g F).props.length ((Cp g F).props.length + 2),.int .i64 (Cp g F).states,.slice (some ⟨ix,0,none⟩) (Cp g F).init.length ((Cp g F).init.length + 2),.slice (some ⟨ex,0,none⟩) (Cp g F).edges.length ((Cp g F).edges.length + 2),.slice (some ⟨fx,0,none⟩) (Cp g F).final.length ((Cp g F).final.length + 2)]) (Own.all mcx) (by rfl) ?_
  refine ld Aa (v := .agg #[.slice (some ⟨py,0,none⟩) b.props.length (b.props.length + 2),.int .i64 b.states,.slice (some ⟨iy,0,none⟩) b.init.length (b.init.length + 2),.slice (some ⟨ey,0,none⟩) b.edges.length (b.edges.length + 2),.slice (some ⟨fy,0,none⟩) b.final.length (b.final.length + 2)]) (Own.all mcy) (by rfl) ?_
  have bs5 : ∃ B,B = wb14.heap.size := ⟨_,rfl⟩
  obtain ⟨F5,hF5⟩ := bs5
  have hcall := Se (AV hX (by omega)) (BV hY (by omega)) ta.st tb.st ta.ed tb.ed
  rewrite [← hRP,← hF5] at hcall
  refine cl L9 hcall ?_
  rintro _ v5 ⟨q5,y5,rfl,o5⟩
  have top5 : ∃ T,T = v5.heap.size := ⟨_,rfl⟩
  obtain ⟨T5,hT5⟩ := top5
  have at5 := Kw o5
  rewrite [← hT5] at at5
  have KK15 := KK14.trans q5
  have mg := q5.own mg id
  have mb := q5.own mb id
  have ma := q5.own ma id
  have mcg := q5.own mcg id
  have mcx := q5.own mcx id
  have mcy := q5.own mcy id
  have moc1 := q5.own moc1 id
  have moc2 := q5.own moc2 id
  have moc3 := q5.own moc3 id
  have moc4 := q5.own moc4 id
  have hG := hG.chg q5 fun _ _ _ h => h
  have hX := hX.chg q5 fun _ _ _ h => h
  have hY := hY.chg q5 fun _ _ _ h => h
  have o1 := Bv o1 q5
  have o2 := Bv o2 q5
  have o3 := Bv o3 q5
  have o4 := Bv o4 q5
  have zz15 := q5.size
  have sz5 : F5 ≤ T5 := by omega
  refine nd fun oc5 wa16 ea16 za16 ra16 na16 => ?_
  refine st Aa na16 rfl (Nat.le_refl 5) rfl ?_
  intro wb16 zb16 rb16 nb16
  have moc5 : Own wb16 oc5 29 [.slice y5.1.1 RP.props.length y5.1.2,.int .i64 RP.states,.slice y5.2.1.1 RP.init.length y5.2.1.2,.slice y5.2.2.1.1 RP.edges.length y5.2.2.1.2,.slice y5.2.2.2.1 RP.final.length y5.2.2.2.2] := nb16
  clear na16 nb16
  have kb16 := ra16.new ea16 rb16
  have KK16 := KK15.trans kb16
  have mg := kb16.own mg id
  have mb := kb16.own mb id
  have ma := kb16.own ma id
  have mcg := kb16.own mcg id
  have mcx := kb16.own mcx id
  have mcy := kb16.own mcy id
  have moc1 := kb16.own moc1 id
  have moc2 := kb16.own moc2 id
  have moc3 := kb16.own moc3 id
  have moc4 := kb16.own moc4 id
  have hG := hG.chg kb16 fun _ _ _ h => h
  have hX := hX.chg kb16 fun _ _ _ h => h
  have hY := hY.chg kb16 fun _ _ _ h => h
  have o1 := Bv o1 kb16
  have o2 := Bv o2 kb16
  have o3 := Bv o3 kb16
  have o4 := Bv o4 kb16
  have o5 := Bv o5 kb16
  have zz16 := kb16.size
  refine ld Aa (v := .agg #[.slice (some ⟨px,0,none⟩) (Cp g F).props.length ((Cp g F).props.length + 2),.int .i64 (Cp g F).states,.slice (some ⟨ix,0,none⟩) (Cp g F).init.length ((Cp g F).init.length + 2),.slice (some ⟨ex,0,none⟩) (Cp g F).edges.length ((Cp g F).edges.length + 2),.slice (some ⟨fx,0,none⟩) (Cp g F).final.length ((Cp g F).final.length + 2)]) (Own.all mcx) (by rfl) ?_
  refine ld Aa (v := .agg #[.slice (some ⟨py,0,none⟩) b.props.length (b.props.length + 2),.int .i64 b.states,.slice (some ⟨iy,0,none⟩) b.init.length (b.init.length + 2),.slice (some ⟨ey,0,none⟩) b.edges.length (b.edges.length + 2),.slice (some ⟨fy,0,none⟩) b.final.length (b.final.length + 2)]) (Own.all mcy) (by rfl) ?_
  have bs6 : ∃ B,B = wb16.heap.size := ⟨_,rfl⟩
  obtain ⟨F6,hF6⟩ := bs6
  have hcall := Se (AV hX (by omega)) (BV hY (by omega)) ta.st tb.st ta.ed tb.ed
  rewrite [← hRP,← hF6] at hcall
  refine cl L9 hcall ?_
  rintro _ v6 ⟨q6,y6,rfl,o6⟩
  have top6 : ∃ T,T = v6.heap.size := ⟨_,rfl⟩
  obtain ⟨T6,hT6⟩ := top6
  have at6 := Kw o6
  rewrite [← hT6] at at6
  have KK17 := KK16.trans q6
  have mg := q6.own mg id
  have mb := q6.own mb id
  have ma := q6.own ma id
  have mcg := q6.own mcg id
  have mcx := q6.own mcx id
  have mcy := q6.own mcy id
  have moc1 := q6.own moc1 id
  have moc2 := q6.own moc2 id
  have moc3 := q6.own moc3 id
  have moc4 := q6.own moc4 id
  have moc5 := q6.own moc5 id
  have hG := hG.chg q6 fun _ _ _ h => h
  have hX := hX.chg q6 fun _ _ _ h => h
  have hY := hY.chg q6 fun _ _ _ h => h
  have o1 := Bv o1 q6
  have o2 := Bv o2 q6
  have o3 := Bv o3 q6
  have o4 := Bv o4 q6
  have o5 := Bv o5 q6
  have zz17 := q6.size
  have sz6 : F6 ≤ T6 := by omega
  refine nd fun oc6 wa18 ea18 za18 ra18 na18 => ?_
  refine st Aa na18 rfl (Nat.le_refl 5) rfl ?_
  intro wb18 zb18 rb18 nb18
  have moc6 : Own wb18 oc6 29 [.slice y6.1.1 RP.props.length y6.1.2,.int .i64 RP.states,.slice y6.2.1.1 RP.init.length y6.2.1.2,.slice y6.2.2.1.1 RP.edges.length y6.2.2.1.2,.slice y6.2.2.2.1 RP.final.length y6.2.2.2.2] := nb18
  clear na18 nb18
  have kb18 := ra18.new ea18 rb18
  have KK18 := KK17.trans kb18
  have mg := kb18.own mg id
  have mb := kb18.own mb id
  have ma := kb18.own ma id
  have mcg := kb18.own mcg id
  have mcx := kb18.own mcx id
  have mcy := kb18.own mcy id
  have moc1 := kb18.own moc1 id
  have moc2 := kb18.own moc2 id
  have moc3 := kb18.own moc3 id
  have moc4 := kb18.own moc4 id
  have moc5 := kb18.own moc5 id
  have hG := hG.chg kb18 fun _ _ _ h => h
  have hX := hX.chg kb18 fun _ _ _ h => h
  have hY := hY.chg kb18 fun _ _ _ h => h
  have o1 := Bv o1 kb18
  have o2 := Bv o2 kb18
  have o3 := Bv o3 kb18
  have o4 := Bv o4 kb18
  have o5 := Bv o5 kb18
  have o6 := Bv o6 kb18
  have zz18 := kb18.size
  refine ld Aa (v := .agg #[.slice (some ⟨pg,0,none⟩) g.props.length (g.props.length + 2),.int .i64 g.states,.slice (some ⟨ig,0,none⟩) g.init.length (g.init.length + 2),.slice (some ⟨eg,0,none⟩) g.edges.length (g.edges.length + 2),.slice (some ⟨sg,0,none⟩) g.sets.length (g.sets.length + 1)]) (Own.all mcg) (by rfl) ?_
  refine ld Aa (v := .agg #[.slice a1 g.props.length c1,.int .i64 g.states,.slice a2 g.init.length c2,.slice a3 g.edges.length c3,.slice a4 g.sets.length c4]) (Own.all mg) (by rfl) ?_
  refine cl L4 (Np hG (hg.chg KK18 fun _ _ _ h => h)) ?_
  rintro _ vW1 ⟨rfl,kW1⟩
  have KK19 := KK18.trans kW1
  have mg := kW1.own mg id
  have mb := kW1.own mb id
  have ma := kW1.own ma id
  have mcg := kW1.own mcg id
  have mcx := kW1.own mcx id
  have mcy := kW1.own mcy id
  have moc1 := kW1.own moc1 id
  have moc2 := kW1.own moc2 id
  have moc3 := kW1.own moc3 id
  have moc4 := kW1.own moc4 id
  have moc5 := kW1.own moc5 id
  have moc6 := kW1.own moc6 id
  have hG := hG.chg kW1 fun _ _ _ h => h
  have hX := hX.chg kW1 fun _ _ _ h => h
  have hY := hY.chg kW1 fun _ _ _ h => h
  have o1 := Bv o1 kW1
  have o2 := Bv o2 kW1
  have o3 := Bv o3 kW1
  have o4 := Bv o4 kW1
  have o5 := Bv o5 kW1
  have o6 := Bv o6 kW1
  have zz19 := kW1.size
  refine ld Aa (v := .agg #[.slice (some ⟨px,0,none⟩) (Cp g F).props.length ((Cp g F).props.length + 2),.int .i64 (Cp g F).states,.slice (some ⟨ix,0,none⟩) (Cp g F).init.length ((Cp g F).init.length + 2),.slice (some ⟨ex,0,none⟩) (Cp g F).edges.length ((Cp g F).edges.length + 2),.slice (some ⟨fx,0,none⟩) (Cp g F).final.length ((Cp g F).final.length + 2)]) (Own.all mcx) (by rfl) ?_
  refine ld Aa (v := .agg #[.slice a1 g.props.length c1,.int .i64 g.states,.slice a2 g.init.length c2,.slice a3 g.edges.length c3,.slice ua F.length uc]) (Own.all ma) (by rfl) ?_
  refine cl Iq (Ko hX (hbA _ KK19)) ?_
  rintro _ vW2 ⟨rfl,kW2⟩
  have KK20 := KK19.trans kW2
  have mg := kW2.own mg id
  have mb := kW2.own mb id
  have ma := kW2.own ma id
  have mcg := kW2.own mcg id
  have mcx := kW2.own mcx id
  have mcy := kW2.own mcy id
  have moc1 := kW2.own moc1 id
  have moc2 := kW2.own moc2 id
  have moc3 := kW2.own moc3 id
  have moc4 := kW2.own moc4 id
  have moc5 := kW2.own moc5 id
  have moc6 := kW2.own moc6 id
  have hG := hG.chg kW2 fun _ _ _ h => h
  have hX := hX.chg kW2 fun _ _ _ h => h
  have hY := hY.chg kW2 fun _ _ _ h => h
  have o1 := Bv o1 kW2
  have o2 := Bv o2 kW2
  have o3 := Bv o3 kW2
  have o4 := Bv o4 kW2
  have o5 := Bv o5 kW2
  have o6 := Bv o6 kW2
  have zz20 := kW2.size
  refine ld Aa (v := .agg #[.slice (some ⟨py,0,none⟩) b.props.length (b.props.length + 2),.int .i64 b.states,.slice (some ⟨iy,0,none⟩) b.init.length (b.init.length + 2),.slice (some ⟨ey,0,none⟩) b.edges.length (b.edges.length + 2),.slice (some ⟨fy,0,none⟩) b.final.length (b.final.length + 2)]) (Own.all mcy) (by rfl) ?_
  refine ld Aa (v := .agg #[.slice b1 b.props.length d1,.int .i64 b.states,.slice b2 b.init.length d2,.slice b3 b.edges.length d3,.slice b4 b.final.length d4]) (Own.all mb) (by rfl) ?_
  refine cl Iq (Ko hY (hb.chg KK20 fun _ _ _ h => h)) ?_
  rintro _ vW3 ⟨rfl,kW3⟩
  have KK21 := KK20.trans kW3
  have mg := kW3.own mg id
  have mb := kW3.own mb id
  have ma := kW3.own ma id
  have mcg := kW3.own mcg id
  have mcx := kW3.own mcx id
  have mcy := kW3.own mcy id
  have moc1 := kW3.own moc1 id
  have moc2 := kW3.own moc2 id
  have moc3 := kW3.own moc3 id
  have moc4 := kW3.own moc4 id
  have moc5 := kW3.own moc5 id
  have moc6 := kW3.own moc6 id
  have hG := hG.chg kW3 fun _ _ _ h => h
  have hX := hX.chg kW3 fun _ _ _ h => h
  have hY := hY.chg kW3 fun _ _ _ h => h
  have o1 := Bv o1 kW3
  have o2 := Bv o2 kW3
  have o3 := Bv o3 kW3
  have o4 := Bv o4 kW3
  have o5 := Bv o5 kW3
  have o6 := Bv o6 kW3
  have zz21 := kW3.size
  refine ld Aa (v := .agg #[.slice (some ⟨pg,0,none⟩) g.props.length (g.props.length + 2),.int .i64 g.states,.slice (some ⟨ig,0,none⟩) g.init.length (g.init.length + 2),.slice (some ⟨eg,0,none⟩) g.edges.length (g.edges.length + 2),.slice (some ⟨sg,0,none⟩) g.sets.length (g.sets.length + 1)]) (Own.all mcg) (by rfl) ?_
  refine ld Aa (v := .agg #[.slice (some ⟨px,0,none⟩) (Cp g F).props.length ((Cp g F).props.length + 2),.int .i64 (Cp g F).states,.slice (some ⟨ix,0,none⟩) (Cp g F).init.length ((Cp g F).init.length + 2),.slice (some ⟨ex,0,none⟩) (Cp g F).edges.length ((Cp g F).edges.length + 2),.slice (some ⟨fx,0,none⟩) (Cp g F).final.length ((Cp g F).final.length + 2)]) (Own.all mcx) (by rfl) ?_
  refine ld Aa (v := .agg #[.slice (some ⟨py,0,none⟩) b.props.length (b.props.length + 2),.int .i64 b.states,.slice (some ⟨iy,0,none⟩) b.init.length (b.init.length + 2),.slice (some ⟨ey,0,none⟩) b.edges.length (b.edges.length + 2),.slice (some ⟨fy,0,none⟩) b.final.length (b.final.length + 2)]) (Own.all mcy) (by rfl) ?_
  have hcall := Y8 hG hX hY (by omega) (by omega) (by omega) tg ta tb
  refine cl Vz hcall ?_
  rintro _ vT ⟨rfl,cT,hG',hX',hY'⟩
  clear hG hX hY
  have KK22 := KK21.newS cT fun k hk => by have hk : (BG ≤ _ ∧ _ < TG) ∨ (BX ≤ _ ∧ _ < TX) ∨ (BY ≤ _ ∧ _ < TY) := hk; omega
  have mg := cT.own mg fun hk => by have hk : (BG ≤ _ ∧ _ < TG) ∨ (BX ≤ _ ∧ _ < TX) ∨ (BY ≤ _ ∧ _ < TY) := hk; omega
  have mb := cT.own mb fun hk => by have hk : (BG ≤ _ ∧ _ < TG) ∨ (BX ≤ _ ∧ _ < TX) ∨ (BY ≤ _ ∧ _ < TY) := hk; omega
  have ma := cT.own ma fun hk => by have hk : (BG ≤ _ ∧ _ < TG) ∨ (BX ≤ _ ∧ _ < TX) ∨ (BY ≤ _ ∧ _ < TY) := hk; omega
  have mcg := cT.own mcg fun hk => by have hk : (BG ≤ _ ∧ _ < TG) ∨ (BX ≤ _ ∧ _ < TX) ∨ (BY ≤ _ ∧ _ < TY) := hk; omega
  have mcx := cT.own mcx fun hk => by have hk : (BG ≤ _ ∧ _ < TG) ∨ (BX ≤ _ ∧ _ < TX) ∨ (BY ≤ _ ∧ _ < TY) := hk; omega
  have mcy := cT.own mcy fun hk => by have hk : (BG ≤ _ ∧ _ < TG) ∨ (BX ≤ _ ∧ _ < TX) ∨ (BY ≤ _ ∧ _ < TY) := hk; omega
  have moc1 := cT.own moc1 fun hk => by have hk : (BG ≤ _ ∧ _ < TG) ∨ (BX ≤ _ ∧ _ < TX) ∨ (BY ≤ _ ∧ _ < TY) := hk; omega
  have moc2 := cT.own moc2 fun hk => by have hk : (BG ≤ _ ∧ _ < TG) ∨ (BX ≤ _ ∧ _ < TX) ∨ (BY ≤ _ ∧ _ < TY) := hk; omega
  have moc3 := cT.own moc3 fun hk => by have hk : (BG ≤ _ ∧ _ < TG) ∨ (BX ≤ _ ∧ _ < TX) ∨ (BY ≤ _ ∧ _ < TY) := hk; omega
  have moc4 := cT.own moc4 fun hk => by have hk : (BG ≤ _ ∧ _ < TG) ∨ (BX ≤ _ ∧ _ < TX) ∨ (BY ≤ _ ∧ _ < TY) := hk; omega
  have moc5 := cT.own moc5 fun hk => by have hk : (BG ≤ _ ∧ _ < TG) ∨ (BX ≤ _ ∧ _ < TX) ∨ (BY ≤ _ ∧ _ < TY) := hk; omega
  have moc6 := cT.own moc6 fun hk => by have hk : (BG ≤ _ ∧ _ < TG) ∨ (BX ≤ _ ∧ _ < TX) ∨ (BY ≤ _ ∧ _ < TY) := hk; omega
  have o1 := OutV.chg o1 cT fun k hk => by have hk : (BG ≤ _ ∧ _ < TG) ∨ (BX ≤ _ ∧ _ < TX) ∨ (BY ≤ _ ∧ _ < TY) := hk; omega
  have o2 := OutV.chg o2 cT fun k hk => by have hk : (BG ≤ _ ∧ _ < TG) ∨ (BX ≤ _ ∧ _ < TX) ∨ (BY ≤ _ ∧ _ < TY) := hk; omega
  have o3 := OutV.chg o3 cT fun k hk => by have hk : (BG ≤ _ ∧ _ < TG) ∨ (BX ≤ _ ∧ _ < TX) ∨ (BY ≤ _ ∧ _ < TY) := hk; omega
  have o4 := OutV.chg o4 cT fun k hk => by have hk : (BG ≤ _ ∧ _ < TG) ∨ (BX ≤ _ ∧ _ < TX) ∨ (BY ≤ _ ∧ _ < TY) := hk; omega
  have o5 := OutV.chg o5 cT fun k hk => by have hk : (BG ≤ _ ∧ _ < TG) ∨ (BX ≤ _ ∧ _ < TX) ∨ (BY ≤ _ ∧ _ < TY) := hk; omega
  have o6 := OutV.chg o6 cT fun k hk => by have hk : (BG ≤ _ ∧ _ < TG) ∨ (BX ≤ _ ∧ _ < TX) ∨ (BY ≤ _ ∧ _ < TY) := hk; omega
  have zz22 := cT.size
  have hGi := Zx hG' hg.lp hg.li (show (g.edges.map sw).length * 24 ≤ _ by rw [List.length_map]; exact hg.le) hg.ls
  have hXi := Ul hX' hg.lp hg.li (show (g.edges.map sw).length * 24 ≤ _ by rw [List.length_map]; exact hg.le) hFl
  have hYi := Ul hY' hb.lp hb.li (show (b.edges.map sw).length * 24 ≤ _ by rw [List.length_map]; exact hb.le) hb.ls
  refine ld Aa (v := .agg #[.slice (some ⟨pg,0,none⟩) g.props.length (g.props.length + 2),.int .i64 g.states,.slice (some ⟨ig,0,none⟩) g.init.length (g.init.length + 2),.slice (some ⟨eg,0,none⟩) g.edges.length (g.edges.length + 2),.slice (some ⟨sg,0,none⟩) g.sets.length (g.sets.length + 1)]) (Own.all mcg) (by rfl) ?_
  have hcall := Nw hG' hGi (by omega)
  refine cl L6 hcall ?_
  rintro _ vS1 ⟨cS1,-⟩
  have hX' := hX'.chg cS1 fun k h1 h2 hk => by have hk : BG ≤ k ∧ k < TG := hk; omega
  have hY' := hY'.chg cS1 fun k h1 h2 hk => by have hk : BG ≤ k ∧ k < TG := hk; omega
  have KK23 := KK22.newS cS1 fun k hk => by have hk : BG ≤ _ ∧ _ < TG := hk; omega
  have mg := cS1.own mg fun hk => by have hk : BG ≤ _ ∧ _ < TG := hk; omega
  have mb := cS1.own mb fun hk => by have hk : BG ≤ _ ∧ _ < TG := hk; omega
  have ma := cS1.own ma fun hk => by have hk : BG ≤ _ ∧ _ < TG := hk; omega
  have mcg := cS1.own mcg fun hk => by have hk : BG ≤ _ ∧ _ < TG := hk; omega
  have mcx := cS1.own mcx fun hk => by have hk : BG ≤ _ ∧ _ < TG := hk; omega
  have mcy := cS1.own mcy fun hk => by have hk : BG ≤ _ ∧ _ < TG := hk; omega
  have moc1 := cS1.own moc1 fun hk => by have hk : BG ≤ _ ∧ _ < TG := hk; omega
  have moc2 := cS1.own moc2 fun hk => by have hk : BG ≤ _ ∧ _ < TG := hk; omega
  have moc3 := cS1.own moc3 fun hk => by have hk : BG ≤ _ ∧ _ < TG := hk; omega
  have moc4 := cS1.own moc4 fun hk => by have hk : BG ≤ _ ∧ _ < TG := hk; omega
  have moc5 := cS1.own moc5 fun hk => by have hk : BG ≤ _ ∧ _ < TG := hk; omega
  have moc6 := cS1.own moc6 fun hk => by have hk : BG ≤ _ ∧ _ < TG := hk; omega
  have o1 := OutV.chg o1 cS1 fun k hk => by have hk : BG ≤ _ ∧ _ < TG := hk; omega
  have o2 := OutV.chg o2 cS1 fun k hk => by have hk : BG ≤ _ ∧ _ < TG := hk; omega
  have o3 := OutV.chg o3 cS1 fun k hk => by have hk : BG ≤ _ ∧ _ < TG := hk; omega
  have o4 := OutV.chg o4 cS1 fun k hk => by have hk : BG ≤ _ ∧ _ < TG := hk; omega
  have o5 := OutV.chg o5 cS1 fun k hk => by have hk : BG ≤ _ ∧ _ < TG := hk; omega
  have o6 := OutV.chg o6 cS1 fun k hk => by have hk : BG ≤ _ ∧ _ < TG := hk; omega
  have zz23 := cS1.size
  refine ld Aa (v := .agg #[.slice (some ⟨px,0,none⟩) (Cp g F).props.length ((Cp g F).props.length + 2),.int .i64 (Cp g F).states,.slice (some ⟨ix,0,none⟩) (Cp g F).init.length ((Cp g F).init.length + 2),.slice (some ⟨ex,0,none⟩) (Cp g F).edges.length ((Cp g F).edges.length + 2),.slice (some ⟨fx,0,none⟩) (Cp g F).final.length ((Cp g F).final.length + 2)]) (Own.all mcx) (by rfl) ?_
  have hcall := Kt hX' hXi (by omega)
  refine cl It hcall ?_
  rintro _ vS2 ⟨cS2,-⟩
  have hY' := hY'.chg cS2 fun k h1 h2 hk => by have hk : BX ≤ k ∧ k < TX := hk; omega
  have KK24 := KK23.newS cS2 fun k hk => by have hk : BX ≤ _ ∧ _ < TX := hk; omega
  have mg := cS2.own mg fun hk => by have hk : BX ≤ _ ∧ _ < TX := hk; omega
  have mb := cS2.own mb fun hk => by have hk : BX ≤ _ ∧ _ < TX := hk; omega
  have ma := cS2.own ma fun hk => by have hk : BX ≤ _ ∧ _ < TX := hk; omega
  have mcg := cS2.own mcg fun hk => by have hk : BX ≤ _ ∧ _ < TX := hk; omega
  have mcx := cS2.own mcx fun hk => by have hk : BX ≤ _ ∧ _ < TX := hk; omega
  have mcy := cS2.own mcy fun hk => by have hk : BX ≤ _ ∧ _ < TX := hk; omega
  have moc1 := cS2.own moc1 fun hk => by have hk : BX ≤ _ ∧ _ < TX := hk; omega
  have moc2 := cS2.own moc2 fun hk => by have hk : BX ≤ _ ∧ _ < TX := hk; omega
  have moc3 := cS2.own moc3 fun hk => by have hk : BX ≤ _ ∧ _ < TX := hk; omega
  have moc4 := cS2.own moc4 fun hk => by have hk : BX ≤ _ ∧ _ < TX := hk; omega
  have moc5 := cS2.own moc5 fun hk => by have hk : BX ≤ _ ∧ _ < TX := hk; omega
  have moc6 := cS2.own moc6 fun hk => by have hk : BX ≤ _ ∧ _ < TX := hk; omega
  have o1 := OutV.chg o1 cS2 fun k hk => by have hk : BX ≤ _ ∧ _ < TX := hk; omega
  have o2 := OutV.chg o2 cS2 fun k hk => by have hk : BX ≤ _ ∧ _ < TX := hk; omega
  have o3 := OutV.chg o3 cS2 fun k hk => by have hk : BX ≤ _ ∧ _ < TX := hk; omega
  have o4 := OutV.chg o4 cS2 fun k hk => by have hk : BX ≤ _ ∧ _ < TX := hk; omega
  have o5 := OutV.chg o5 cS2 fun k hk => by have hk : BX ≤ _ ∧ _ < TX := hk; omega
  have o6 := OutV.chg o6 cS2 fun k hk => by have hk : BX ≤ _ ∧ _ < TX := hk; omega
  have zz24 := cS2.size
  refine ld Aa (v := .agg #[.slice (some ⟨py,0,none⟩) b.props.length (b.props.length + 2),.int .i64 b.states,.slice (some ⟨iy,0,none⟩) b.init.length (b.init.length + 2),.slice (some ⟨ey,0,none⟩) b.edges.length (b.edges.length + 2),.slice (some ⟨fy,0,none⟩) b.final.length (b.final.length + 2)]) (Own.all mcy) (by rfl) ?_
  have hcall := Kt hY' hYi (by omega)
  refine cl It hcall ?_
  rintro _ vS3 ⟨cS3,-⟩
  have KK25 := KK24.newS cS3 fun k hk => by have hk : BY ≤ _ ∧ _ < TY := hk; omega
  have mg := cS3.own mg fun hk => by have hk : BY ≤ _ ∧ _ < TY := hk; omega
  have mb := cS3.own mb fun hk => by have hk : BY ≤ _ ∧ _ < TY := hk; omega
  have ma := cS3.own ma fun hk => by have hk : BY ≤ _ ∧ _ < TY := hk; omega
  have mcg := cS3.own mcg fun hk => by have hk : BY ≤ _ ∧ _ < TY := hk; omega
  have mcx := cS3.own mcx fun hk => by have hk : BY ≤ _ ∧ _ < TY := hk; omega
  have mcy := cS3.own mcy fun hk => by have hk : BY ≤ _ ∧ _ < TY := hk; omega
  have moc1 := cS3.own moc1 fun hk => by have hk : BY ≤ _ ∧ _ < TY := hk; omega
  have moc2 := cS3.own moc2 fun hk => by have hk : BY ≤ _ ∧ _ < TY := hk; omega
  have moc3 := cS3.own moc3 fun hk => by have hk : BY ≤ _ ∧ _ < TY := hk; omega
  have moc4 := cS3.own moc4 fun hk => by have hk : BY ≤ _ ∧ _ < TY := hk; omega
  have moc5 := cS3.own moc5 fun hk => by have hk : BY ≤ _ ∧ _ < TY := hk; omega
  have moc6 := cS3.own moc6 fun hk => by have hk : BY ≤ _ ∧ _ < TY := hk; omega
  have o1 := OutV.chg o1 cS3 fun k hk => by have hk : BY ≤ _ ∧ _ < TY := hk; omega
  have o2 := OutV.chg o2 cS3 fun k hk => by have hk : BY ≤ _ ∧ _ < TY := hk; omega
  have o3 := OutV.chg o3 cS3 fun k hk => by have hk : BY ≤ _ ∧ _ < TY := hk; omega
  have o4 := OutV.chg o4 cS3 fun k hk => by have hk : BY ≤ _ ∧ _ < TY := hk; omega
  have o5 := OutV.chg o5 cS3 fun k hk => by have hk : BY ≤ _ ∧ _ < TY := hk; omega
  have o6 := OutV.chg o6 cS3 fun k hk => by have hk : BY ≤ _ ∧ _ < TY := hk; omega
  have zz25 := cS3.size
  clear hG' hX' hY' hGi hXi hYi
  have GV2 : ∀ {W},Kp w W → GenV 0 W.heap.size W _ _ _ _ g := fun k => hg.gen.chg k (Nat.zero_le _) k.size
  have AV2 : ∀ {W},Kp w W → BuchiV 0 W.heap.size W _ _ _ _ (Cp g F) := fun k => (hbA _ k).gen.chg (Chg.refl _ _) (Nat.zero_le _) k.size
  have BV2 : ∀ {W},Kp w W → BuchiV 0 W.heap.size W _ _ _ _ b := fun k => hb.gen.chg k (Nat.zero_le _) k.size
  refine ld Aa (v := .agg #[.slice a1 g.props.length c1,.int .i64 g.states,.slice a2 g.init.length c2,.slice a3 g.edges.length c3,.slice a4 g.sets.length c4]) (Own.all mg) (by rfl) ?_
  have bs7 : ∃ B,B = vS3.heap.size := ⟨_,rfl⟩
  obtain ⟨F7,hF7⟩ := bs7
  have hcall := Qc (GV2 KK25) tg.st tg.ed tg.ls
  rewrite [← hRD,← hF7] at hcall
  refine cl O7 hcall ?_
  rintro _ v7 ⟨q7,y7,rfl,o7⟩
  have top7 : ∃ T,T = v7.heap.size := ⟨_,rfl⟩
  obtain ⟨T7,hT7⟩ := top7
  have at7 := Kw o7
  rewrite [← hT7] at at7
  have KK26 := KK25.trans q7
  have mg := q7.own mg id
  have mb := q7.own mb id
  have ma := q7.own ma id
  have moc1 := q7.own moc1 id
  have moc2 := q7.own moc2 id
  have moc3 := q7.own moc3 id
  have moc4 := q7.own moc4 id
  have moc5 := q7.own moc5 id
  have moc6 := q7.own moc6 id
  have o1 := Bv o1 q7
  have o2 := Bv o2 q7
  have o3 := Bv o3 q7
  have o4 := Bv o4 q7
  have o5 := Bv o5 q7
  have o6 := Bv o6 q7
  have zz26 := q7.size
  have sz7 : F7 ≤ T7 := by omega
  refine nd fun oc7 wa27 ea27 za27 ra27 na27 => ?_
  refine st Aa na27 rfl (Nat.le_refl 5) rfl ?_
  intro wb27 zb27 rb27 nb27
  have moc7 : Own wb27 oc7 29 [.slice y7.1.1 RD.props.length y7.1.2,.int .i64 RD.states,.slice y7.2.1.1 RD.init.length y7.2.1.2,.slice y7.2.2.1.1 RD.edges.length y7.2.2.1.2,.slice y7.2.2.2.1 RD.final.length y7.2.2.2.2] := nb27
  clear na27 nb27
  have kb27 := ra27.new ea27 rb27
  have KK27 := KK26.trans kb27
  have mg := kb27.own mg id
  have mb := kb27.own mb id
  have ma := kb27.own ma id
  have moc1 := kb27.own moc1 id
  have moc2 := kb27.own moc2 id
  have moc3 := kb27.own moc3 id
  have moc4 := kb27.own moc4 id
  have moc5 := kb27.own moc5 id
  have moc6 := kb27.own moc6 id
  have o1 := Bv o1 kb27
  have o2 := Bv o2 kb27
  have o3 := Bv o3 kb27
  have o4 := Bv o4 kb27
  have o5 := Bv o5 kb27
  have o6 := Bv o6 kb27
  have o7 := Bv o7 kb27
  have zz27 := kb27.size
  refine ld Aa (v := .agg #[.slice a1 g.props.length c1,.int .i64 g.states,.slice a2 g.init.length c2,.slice a3 g.edges.length c3,.slice ua F.length uc]) (Own.all ma) (by rfl) ?_
  have bs8 : ∃ B,B = wb27.heap.size := ⟨_,rfl⟩
  obtain ⟨F8,hF8⟩ := bs8
  have hcall := S5 (AV2 KK27) ta.st ta.ed
  rewrite [← hRT,← hF8] at hcall
  refine cl Qy hcall ?_
  rintro _ v8 ⟨q8,y8,rfl,o8⟩
  have top8 : ∃ T,T = v8.heap.size := ⟨_,rfl⟩
  obtain ⟨T8,hT8⟩ := top8
  have at8 := Kw o8
  rewrite [← hT8] at at8
  have KK28 := KK27.trans q8
  have mg := q8.own mg id
  have mb := q8.own mb id
  have ma := q8.own ma id
  have moc1 := q8.own moc1 id
  have moc2 := q8.own moc2 id
  have moc3 := q8.own moc3 id
  have moc4 := q8.own moc4 id
  have moc5 := q8.own moc5 id
  have moc6 := q8.own moc6 id
  have moc7 := q8.own moc7 id
  have o1 := Bv o1 q8
  have o2 := Bv o2 q8
  have o3 := Bv o3 q8
  have o4 := Bv o4 q8
  have o5 := Bv o5 q8
  have o6 := Bv o6 q8
  have o7 := Bv o7 q8
  have zz28 := q8.size
  have sz8 : F8 ≤ T8 := by omega
  refine nd fun oc8 wa29 ea29 za29 ra29 na29 => ?_
  refine st Aa na29 rfl (Nat.le_refl 5) rfl ?_
  intro wb29 zb29 rb29 nb29
  have moc8 : Own wb29 oc8 29 [.slice y8.1.1 RT.props.length y8.1.2,.int .i64 RT.states,.slice y8.2.1.1 RT.init.length y8.2.1.2,.slice y8.2.2.1.1 RT.edges.length y8.2.2.1.2,.slice y8.2.2.2.1 RT.final.length y8.2.2.2.2] := nb29
  clear na29 nb29
  have kb29 := ra29.new ea29 rb29
  have KK29 := KK28.trans kb29
  have mg := kb29.own mg id
  have mb := kb29.own mb id
  have ma := kb29.own ma id
  have moc1 := kb29.own moc1 id
  have moc2 := kb29.own moc2 id
  have moc3 := kb29.own moc3 id
  have moc4 := kb29.own moc4 id
  have moc5 := kb29.own moc5 id
  have moc6 := kb29.own moc6 id
  have moc7 := kb29.own moc7 id
  have o1 := Bv o1 kb29
  have o2 := Bv o2 kb29
  have o3 := Bv o3 kb29
  have o4 := Bv o4 kb29
  have o5 := Bv o5 kb29
  have o6 := Bv o6 kb29
  have o7 := Bv o7 kb29
  have o8 := Bv o8 kb29
  have zz29 := kb29.size
  refine ld Aa (v := .agg #[.slice a1 g.props.length c1,.int .i64 g.states,.slice a2 g.init.length c2,.slice a3 g.edges.length c3,.slice ua F.length uc]) (Own.all ma) (by rfl) ?_
  refine ld Aa (v := .agg #[.slice b1 b.props.length d1,.int .i64 b.states,.slice b2 b.init.length d2,.slice b3 b.edges.length d3,.slice b4 b.final.length d4]) (Own.all mb) (by rfl) ?_
  have bs9 : ∃ B,B = wb29.heap.size := ⟨_,rfl⟩
  obtain ⟨F9,hF9⟩ := bs9
  have hcall := Tc (AV2 KK29) (BV2 KK29) ta.st tb.st ta.ed tb.ed
  rewrite [← hRP,← hF9] at hcall
  refine cl Qz hcall ?_
  rintro _ v9 ⟨q9,y9,rfl,o9⟩
  have top9 : ∃ T,T = v9.heap.size := ⟨_,rfl⟩
  obtain ⟨T9,hT9⟩ := top9
  have at9 := Kw o9
  rewrite [← hT9] at at9
  have KK30 := KK29.trans q9
  have mg := q9.own mg id
  have mb := q9.own mb id
  have ma := q9.own ma id
  have moc1 := q9.own moc1 id
  have moc2 := q9.own moc2 id
  have moc3 := q9.own moc3 id
  have moc4 := q9.own moc4 id
  have moc5 := q9.own moc5 id
  have moc6 := q9.own moc6 id
  have moc7 := q9.own moc7 id
  have moc8 := q9.own moc8 id
  have o1 := Bv o1 q9
  have o2 := Bv o2 q9
  have o3 := Bv o3 q9
  have o4 := Bv o4 q9
  have o5 := Bv o5 q9
  have o6 := Bv o6 q9
  have o7 := Bv o7 q9
  have o8 := Bv o8 q9
  have zz30 := q9.size
  have sz9 : F9 ≤ T9 := by omega
  refine nd fun oc9 wa31 ea31 za31 ra31 na31 => ?_
  refine st Aa na31 rfl (Nat.le_refl 5) rfl ?_
  intro wb31 zb31 rb31 nb31
  have moc9 : Own wb31 oc9 29 [.slice y9.1.1 RP.props.length y9.1.2,.int .i64 RP.states,.slice y9.2.1.1 RP.init.length y9.2.1.2,.slice y9.2.2.1.1 RP.edges.length y9.2.2.1.2,.slice y9.2.2.2.1 RP.final.length y9.2.2.2.2] := nb31
  clear na31 nb31
  have kb31 := ra31.new ea31 rb31
  have KK31 := KK30.trans kb31
  have mg := kb31.own mg id
  have mb := kb31.own mb id
  have ma := kb31.own ma id
  have moc1 := kb31.own moc1 id
  have moc2 := kb31.own moc2 id
  have moc3 := kb31.own moc3 id
  have moc4 := kb31.own moc4 id
  have moc5 := kb31.own moc5 id
  have moc6 := kb31.own moc6 id
  have moc7 := kb31.own moc7 id
  have moc8 := kb31.own moc8 id
  have o1 := Bv o1 kb31
  have o2 := Bv o2 kb31
  have o3 := Bv o3 kb31
  have o4 := Bv o4 kb31
  have o5 := Bv o5 kb31
  have o6 := Bv o6 kb31
  have o7 := Bv o7 kb31
  have o8 := Bv o8 kb31
  have o9 := Bv o9 kb31
  have zz31 := kb31.size
  have bb : ∃ B,B = wb31.heap.size := ⟨_,rfl⟩
  obtain ⟨BB,hBB⟩ := bb
  refine nd fun bk wk ek zk kk nk => ?_
  have hbk : BookV wk BB bk Ad Ad Ad [] [] [] := ⟨nk,World.ownsRow_nil _ _ _ _,World.ownsRow_nil _ _ _ _,World.ownsRow_nil _ _ _ _,by omega,by omega,by decide,by decide,by decide⟩
  clear nk
  have KK32 := KK31.trans kk
  have moc1 := kk.own moc1 id
  have moc2 := kk.own moc2 id
  have moc3 := kk.own moc3 id
  have moc4 := kk.own moc4 id
  have moc5 := kk.own moc5 id
  have moc6 := kk.own moc6 id
  have moc7 := kk.own moc7 id
  have moc8 := kk.own moc8 id
  have moc9 := kk.own moc9 id
  have o1 := Bv o1 kk
  have o2 := Bv o2 kk
  have o3 := Bv o3 kk
  have o4 := Bv o4 kk
  have o5 := Bv o5 kk
  have o6 := Bv o6 kk
  have o7 := Bv o7 kk
  have o8 := Bv o8 kk
  have o9 := Bv o9 kk
  have zz32 := kk.size
  have B1_0 : ∀ W,Kp wk W → _ := fun W k => (OutV.bvS o1 dS).chg k (Nat.le_refl _) k.size
  have B2_0 : ∀ W,Kp wk W → _ := fun W k => (OutV.bvS o2 dS).chg k (Nat.le_refl _) k.size
  have B7_0 : ∀ W,Kp wk W → _ := fun W k => (OutV.bvS o7 dS).chg k (Nat.le_refl _) k.size
  refine ld Aa (v := Fg RD y1) (Own.all moc1) (by rfl) ?_
  refine ld Aa (v := Fg RD y2) (Own.all moc2) (by rfl) ?_
  refine ld Aa (v := Fg RD y7) (Own.all moc7) (by rfl) ?_
  refine cl L5 (Ra hbk y1 y2 y7 (show 0 < 800 by decide) (show 0 < 800 by decide) (show 0 < 800 by decide) B1_0 B2_0 B7_0) ?_
  rintro _ vk0 ⟨rfl,vT0,vI0,vE0,hbk0,ck0,nk0⟩
  have KK33 := KK32.newS ck0 fun k hk => by have := hbk.low hk; omega
  have moc1 := ck0.own moc1 (hbk.off moc1 (.inr (.inr (.inr rfl))))
  have moc2 := ck0.own moc2 (hbk.off moc2 (.inr (.inr (.inr rfl))))
  have moc3 := ck0.own moc3 (hbk.off moc3 (.inr (.inr (.inr rfl))))
  have moc4 := ck0.own moc4 (hbk.off moc4 (.inr (.inr (.inr rfl))))
  have moc5 := ck0.own moc5 (hbk.off moc5 (.inr (.inr (.inr rfl))))
  have moc6 := ck0.own moc6 (hbk.off moc6 (.inr (.inr (.inr rfl))))
  have moc7 := ck0.own moc7 (hbk.off moc7 (.inr (.inr (.inr rfl))))
  have moc8 := ck0.own moc8 (hbk.off moc8 (.inr (.inr (.inr rfl))))
  have moc9 := ck0.own moc9 (hbk.off moc9 (.inr (.inr (.inr rfl))))
  have o1 := Bi o1 hbk ck0
  have o2 := Bi o2 hbk ck0
  have o3 := Bi o3 hbk ck0
  have o4 := Bi o4 hbk ck0
  have o5 := Bi o5 hbk ck0
  have o6 := Bi o6 hbk ck0
  have o7 := Bi o7 hbk ck0
  have o8 := Bi o8 hbk ck0
  have o9 := Bi o9 hbk ck0
  have zz33 := ck0.size
  clear hbk
  have hbk := hbk0
  clear hbk0
  have hbk : BookV vk0 BB bk vT0 vI0 vE0 [.slice y1.1.1 RD.props.length y1.1.2,.slice y2.1.1 RD.props.length y2.1.2] [.slice y1.2.1.1 RD.init.length y1.2.1.2,.slice y1.2.2.2.1 RD.final.length y1.2.2.2.2,.slice y2.2.1.1 RD.init.length y2.2.1.2,.slice y2.2.2.2.1 RD.final.length y2.2.2.2.2] [.slice y1.2.2.1.1 RD.edges.length y1.2.2.1.2,.slice y2.2.2.1.1 RD.edges.length y2.2.2.1.2] := hbk
  have B3_1 : ∀ W,Kp vk0 W → _ := fun W k => (OutV.bvS o3 tS).chg k (Nat.le_refl _) k.size
  have B4_1 : ∀ W,Kp vk0 W → _ := fun W k => (OutV.bvS o4 tS).chg k (Nat.le_refl _) k.size
  have B8_1 : ∀ W,Kp vk0 W → _ := fun W k => (OutV.bvS o8 tS).chg k (Nat.le_refl _) k.size
  refine ld Aa (v := Fg RT y3) (Own.all moc3) (by rfl) ?_
  refine ld Aa (v := Fg RT y4) (Own.all moc4) (by rfl) ?_
  refine ld Aa (v := Fg RT y8) (Own.all moc8) (by rfl) ?_
  refine cl L5 (Ra hbk y3 y4 y8 (show 2 < 800 by decide) (show 4 < 800 by decide) (show 2 < 800 by decide) B3_1 B4_1 B8_1) ?_
  rintro _ vk1 ⟨rfl,vT1,vI1,vE1,hbk1,ck1,nk1⟩
  have KK34 := KK33.newS ck1 fun k hk => by have := hbk.low hk; omega
  have moc1 := ck1.own moc1 (hbk.off moc1 (.inr (.inr (.inr rfl))))
  have moc2 := ck1.own moc2 (hbk.off moc2 (.inr (.inr (.inr rfl))))
  have moc3 := ck1.own moc3 (hbk.off moc3 (.inr (.inr (.inr rfl))))
  have moc4 := ck1.own moc4 (hbk.off moc4 (.inr (.inr (.inr rfl))))
  have moc5 := ck1.own moc5 (hbk.off moc5 (.inr (.inr (.inr rfl))))
  have moc6 := ck1.own moc6 (hbk.off moc6 (.inr (.inr (.inr rfl))))
  have moc7 := ck1.own moc7 (hbk.off moc7 (.inr (.inr (.inr rfl))))
  have moc8 := ck1.own moc8 (hbk.off moc8 (.inr (.inr (.inr rfl))))
  have moc9 := ck1.own moc9 (hbk.off moc9 (.inr (.inr (.inr rfl))))
  have o1 := Bi o1 hbk ck1
  have o2 := Bi o2 hbk ck1
  have o3 := Bi o3 hbk ck1
  have o4 := Bi o4 hbk ck1
  have o5 := Bi o5 hbk ck1
  have o6 := Bi o6 hbk ck1
  have o7 := Bi o7 hbk ck1
  have o8 := Bi o8 hbk ck1
  have o9 := Bi o9 hbk ck1
  have zz34 := ck1.size
  clear hbk
  have hbk := hbk1
  clear hbk1
  have hbk : BookV vk1 BB bk vT1 vI1 vE1 [.slice y1.1.1 RD.props.length y1.1.2,.slice y2.1.1 RD.props.length y2.1.2,.slice y3.1.1 RT.props.length y3.1.2,.slice y4.1.1 RT.props.length y4.1.2] [.slice y1.2.1.1 RD.init.length y1.2.1.2,.slice y1.2.2.2.1 RD.final.length y1.2.2.2.2,.slice y2.2.1.1 RD.init.length y2.2.1.2,.slice y2.2.2.2.1 RD.final.length y2.2.2.2.2,.slice y3.2.1.1 RT.init.length y3.2.1.2,.slice y3.2.2.2.1 RT.final.length y3.2.2.2.2,.slice y4.2.1.1 RT.init.length y4.2.1.2,.slice y4.2.2.2.1 RT.final.length y4.2.2.2.2] [.slice y1.2.2.1.1 RD.edges.length y1.2.2.1.2,.slice y2.2.2.1.1 RD.edges.length y2.2.2.1.2,.slice y3.2.2.1.1 RT.edges.length y3.2.2.1.2,.slice y4.2.2.1.1 RT.edges.length y4.2.2.1.2] := hbk
  have B5_2 : ∀ W,Kp vk1 W → _ := fun W k => (OutV.bvS o5 pS).chg k (Nat.le_refl _) k.size
  have B6_2 : ∀ W,Kp vk1 W → _ := fun W k => (OutV.bvS o6 pS).chg k (Nat.le_refl _) k.size
  have B9_2 : ∀ W,Kp vk1 W → _ := fun W k => (OutV.bvS o9 pS).chg k (Nat.le_refl _) k.size
  refine ld Aa (v := Fg RP y5) (Own.all moc5) (by rfl) ?_
  refine ld Aa (v := Fg RP y6) (Own.all moc6) (by rfl) ?_
  refine ld Aa (v := Fg RP y9) (Own.all moc9) (by rfl) ?_
  refine cl L5 (Ra hbk y5 y6 y9 (show 4 < 800 by decide) (show 8 < 800 by decide) (show 4 < 800 by decide) B5_2 B6_2 B9_2) ?_
  rintro _ vk2 ⟨rfl,vT2,vI2,vE2,hbk2,ck2,nk2⟩
  have KK35 := KK34.newS ck2 fun k hk => by have := hbk.low hk; omega
  have moc1 := ck2.own moc1 (hbk.off moc1 (.inr (.inr (.inr rfl))))
  have moc2 := ck2.own moc2 (hbk.off moc2 (.inr (.inr (.inr rfl))))
  have moc3 := ck2.own moc3 (hbk.off moc3 (.inr (.inr (.inr rfl))))
  have moc4 := ck2.own moc4 (hbk.off moc4 (.inr (.inr (.inr rfl))))
  have moc5 := ck2.own moc5 (hbk.off moc5 (.inr (.inr (.inr rfl))))
  have moc6 := ck2.own moc6 (hbk.off moc6 (.inr (.inr (.inr rfl))))
  have moc7 := ck2.own moc7 (hbk.off moc7 (.inr (.inr (.inr rfl))))
  have moc8 := ck2.own moc8 (hbk.off moc8 (.inr (.inr (.inr rfl))))
  have moc9 := ck2.own moc9 (hbk.off moc9 (.inr (.inr (.inr rfl))))
  have o1 := Bi o1 hbk ck2
  have o2 := Bi o2 hbk ck2
  have o3 := Bi o3 hbk ck2
  have o4 := Bi o4 hbk ck2
  have o5 := Bi o5 hbk ck2
  have o6 := Bi o6 hbk ck2
  have o7 := Bi o7 hbk ck2
  have o8 := Bi o8 hbk ck2
  have o9 := Bi o9 hbk ck2
  have zz35 := ck2.size
  clear hbk
  have hbk := hbk2
  clear hbk2
  have hbk : BookV vk2 BB bk vT2 vI2 vE2 [.slice y1.1.1 RD.props.length y1.1.2,.slice y2.1.1 RD.props.length y2.1.2,.slice y3.1.1 RT.props.length y3.1.2,.slice y4.1.1 RT.props.length y4.1.2,.slice y5.1.1 RP.props.length y5.1.2,.slice y6.1.1 RP.props.length y6.1.2] [.slice y1.2.1.1 RD.init.length y1.2.1.2,.slice y1.2.2.2.1 RD.final.length y1.2.2.2.2,.slice y2.2.1.1 RD.init.length y2.2.1.2,.slice y2.2.2.2.1 RD.final.length y2.2.2.2.2,.slice y3.2.1.1 RT.init.length y3.2.1.2,.slice y3.2.2.2.1 RT.final.length y3.2.2.2.2,.slice y4.2.1.1 RT.init.length y4.2.1.2,.slice y4.2.2.2.1 RT.final.length y4.2.2.2.2,.slice y5.2.1.1 RP.init.length y5.2.1.2,.slice y5.2.2.2.1 RP.final.length y5.2.2.2.2,.slice y6.2.1.1 RP.init.length y6.2.1.2,.slice y6.2.2.2.1 RP.final.length y6.2.2.2.2] [.slice y1.2.2.1.1 RD.edges.length y1.2.2.1.2,.slice y2.2.2.1.1 RD.edges.length y2.2.2.1.2,.slice y3.2.2.1.1 RT.edges.length y3.2.2.1.2,.slice y4.2.2.1.1 RT.edges.length y4.2.2.1.2,.slice y5.2.2.1.1 RP.edges.length y5.2.2.1.2,.slice y6.2.2.1.1 RP.edges.length y6.2.2.1.2] := hbk
  have rngs : F1 ≤ T1 ∧ T1 ≤ F2 ∧ F2 ≤ T2 ∧ T2 ≤ F3 ∧ F3 ≤ T3 ∧ T3 ≤ F4 ∧ F4 ≤ T4 ∧ T4 ≤ F5 ∧ F5 ≤ T5 ∧ T5 ≤ F6 ∧ F6 ≤ T6 ∧ E0 ≤ F1 := by omega
  have sT : Sj [.slice y1.1.1 RD.props.length y1.1.2,.slice y2.1.1 RD.props.length y2.1.2,.slice y3.1.1 RT.props.length y3.1.2,.slice y4.1.1 RT.props.length y4.1.2,.slice y5.1.1 RP.props.length y5.1.2,.slice y6.1.1 RP.props.length y6.1.2] := by
   refine Sy [(.slice y1.1.1 RD.props.length y1.1.2,F1,T1),(.slice y2.1.1 RD.props.length y2.1.2,F2,T2),(.slice y3.1.1 RT.props.length y3.1.2,F3,T3),(.slice y4.1.1 RT.props.length y4.1.2,F4,T4),(.slice y5.1.1 RP.props.length y5.1.2,F5,T5),(.slice y6.1.1 RP.props.length y6.1.2,F6,T6)] (fun x hx => ?_) (by simp; omega)
   simp only [List.mem_cons,List.not_mem_nil,or_false] at hx
   rcases hx with rfl | rfl | rfl | rfl | rfl | rfl
   · exact fun k hk => at1 k (.inl hk)
   · exact fun k hk => at2 k (.inl hk)
   · exact fun k hk => at3 k (.inl hk)
   · exact fun k hk => at4 k (.inl hk)
   · exact fun k hk => at5 k (.inl hk)
   · exact fun k hk => at6 k (.inl hk)
  have sE : Sj [.slice y1.2.2.1.1 RD.edges.length y1.2.2.1.2,.slice y2.2.2.1.1 RD.edges.length y2.2.2.1.2,.slice y3.2.2.1.1 RT.edges.length y3.2.2.1.2,.slice y4.2.2.1.1 RT.edges.length y4.2.2.1.2,.slice y5.2.2.1.1 RP.edges.length y5.2.2.1.2,.slice y6.2.2.1.1 RP.edges.length y6.2.2.1.2] := by
   refine Sy [(.slice y1.2.2.1.1 RD.edges.length y1.2.2.1.2,F1,T1),(.slice y2.2.2.1.1 RD.edges.length y2.2.2.1.2,F2,T2),(.slice y3.2.2.1.1 RT.edges.length y3.2.2.1.2,F3,T3),(.slice y4.2.2.1.1 RT.edges.length y4.2.2.1.2,F4,T4),(.slice y5.2.2.1.1 RP.edges.length y5.2.2.1.2,F5,T5),(.slice y6.2.2.1.1 RP.edges.length y6.2.2.1.2,F6,T6)] (fun x hx => ?_) (by simp; omega)
   simp only [List.mem_cons,List.not_mem_nil,or_false] at hx
   rcases hx with rfl | rfl | rfl | rfl | rfl | rfl
   · exact fun k hk => at1 k (.inr (.inr (.inl hk)))
   · exact fun k hk => at2 k (.inr (.inr (.inl hk)))
   · exact fun k hk => at3 k (.inr (.inr (.inl hk)))
   · exact fun k hk => at4 k (.inr (.inr (.inl hk)))
   · exact fun k hk => at5 k (.inr (.inr (.inl hk)))
   · exact fun k hk => at6 k (.inr (.inr (.inl hk)))
  have sI : Sj [.slice y1.2.1.1 RD.init.length y1.2.1.2,.slice y1.2.2.2.1 RD.final.length y1.2.2.2.2,.slice y2.2.1.1 RD.init.length y2.2.1.2,.slice y2.2.2.2.1 RD.final.length y2.2.2.2.2,.slice y3.2.1.1 RT.init.length y3.2.1.2,.slice y3.2.2.2.1 RT.final.length y3.2.2.2.2,.slice y4.2.1.1 RT.init.length y4.2.1.2,.slice y4.2.2.2.1 RT.final.length y4.2.2.2.2,.slice y5.2.1.1 RP.init.length y5.2.1.2,.slice y5.2.2.2.1 RP.final.length y5.2.2.2.2,.slice y6.2.1.1 RP.init.length y6.2.1.2,.slice y6.2.2.2.1 RP.final.length y6.2.2.2.2] := by
   refine Sx [(.slice y1.2.1.1 RD.init.length y1.2.1.2,.slice y1.2.2.2.1 RD.final.length y1.2.2.2.2,F1,T1),(.slice y2.2.1.1 RD.init.length y2.2.1.2,.slice y2.2.2.2.1 RD.final.length y2.2.2.2.2,F2,T2),(.slice y3.2.1.1 RT.init.length y3.2.1.2,.slice y3.2.2.2.1 RT.final.length y3.2.2.2.2,F3,T3),(.slice y4.2.1.1 RT.init.length y4.2.1.2,.slice y4.2.2.2.1 RT.final.length y4.2.2.2.2,F4,T4),(.slice y5.2.1.1 RP.init.length y5.2.1.2,.slice y5.2.2.2.1 RP.final.length y5.2.2.2.2,F5,T5),(.slice y6.2.1.1 RP.init.length y6.2.1.2,.slice y6.2.2.2.1 RP.final.length y6.2.2.2.2,F6,T6)] (fun x hx => ?_) (fun x hx => ?_) (fun x hx => ?_) (by simp; omega)
   · simp only [List.mem_cons,List.not_mem_nil,or_false] at hx
     rcases hx with rfl | rfl | rfl | rfl | rfl | rfl
     · exact fun k hk => at1 k (.inr (.inl hk))
     · exact fun k hk => at2 k (.inr (.inl hk))
     · exact fun k hk => at3 k (.inr (.inl hk))
     · exact fun k hk => at4 k (.inr (.inl hk))
     · exact fun k hk => at5 k (.inr (.inl hk))
     · exact fun k hk => at6 k (.inr (.inl hk))
   · simp only [List.mem_cons,List.not_mem_nil,or_false] at hx
     rcases hx with rfl | rfl | rfl | rfl | rfl | rfl
     · exact fun k hk => at1 k (.inr (.inr (.inr hk)))
     · exact fun k hk => at2 k (.inr (.inr (.inr hk)))
     · exact fun k hk => at3 k (.inr (.inr (.inr hk)))
     · exact fun k hk => at4 k (.inr (.inr (.inr hk)))
     · exact fun k hk => at5 k (.inr (.inr (.inr hk)))
     · exact fun k hk => at6 k (.inr (.inr (.inr hk)))
   · simp only [List.mem_cons,List.not_mem_nil,or_false] at hx
     rcases hx with rfl | rfl | rfl | rfl | rfl | rfl
     · exact fun k hk => o1.sep k hk
     · exact fun k hk => o2.sep k hk
     · exact fun k hk => o3.sep k hk
     · exact fun k hk => o4.sep k hk
     · exact fun k hk => o5.sep k hk
     · exact fun k hk => o6.sep k hk
  have aT : AllV ByteArray Qs 1 9 w.heap.size vk2 [.slice y1.1.1 RD.props.length y1.1.2,.slice y2.1.1 RD.props.length y2.1.2,.slice y3.1.1 RT.props.length y3.1.2,.slice y4.1.1 RT.props.length y4.1.2,.slice y5.1.1 RP.props.length y5.1.2,.slice y6.1.1 RP.props.length y6.1.2] := by
   intro v hv
   simp only [List.mem_cons,List.not_mem_nil,or_false] at hv
   rcases hv with rfl | rfl | rfl | rfl | rfl | rfl
   · exact ⟨_,Ap o1.props (show w.heap.size ≤ F1 by omega),dS.lp⟩
   · exact ⟨_,Ap o2.props (show w.heap.size ≤ F2 by omega),dS.lp⟩
   · exact ⟨_,Ap o3.props (show w.heap.size ≤ F3 by omega),tS.lp⟩
   · exact ⟨_,Ap o4.props (show w.heap.size ≤ F4 by omega),tS.lp⟩
   · exact ⟨_,Ap o5.props (show w.heap.size ≤ F5 by omega),pS.lp⟩
   · exact ⟨_,Ap o6.props (show w.heap.size ≤ F6 by omega),pS.lp⟩
  have aI : AllV Int Qt 1 3 w.heap.size vk2 [.slice y1.2.1.1 RD.init.length y1.2.1.2,.slice y1.2.2.2.1 RD.final.length y1.2.2.2.2,.slice y2.2.1.1 RD.init.length y2.2.1.2,.slice y2.2.2.2.1 RD.final.length y2.2.2.2.2,.slice y3.2.1.1 RT.init.length y3.2.1.2,.slice y3.2.2.2.1 RT.final.length y3.2.2.2.2,.slice y4.2.1.1 RT.init.length y4.2.1.2,.slice y4.2.2.2.1 RT.final.length y4.2.2.2.2,.slice y5.2.1.1 RP.init.length y5.2.1.2,.slice y5.2.2.2.1 RP.final.length y5.2.2.2.2,.slice y6.2.1.1 RP.init.length y6.2.1.2,.slice y6.2.2.2.1 RP.final.length y6.2.2.2.2] := by
   intro v hv
   simp only [List.mem_cons,List.not_mem_nil,or_false] at hv
   rcases hv with rfl | rfl | rfl | rfl | rfl | rfl | rfl | rfl | rfl | rfl | rfl | rfl
   · exact ⟨_,Ap o1.rI (show w.heap.size ≤ F1 by omega),dS.li⟩
   · exact ⟨_,Ap o1.rF (show w.heap.size ≤ F1 by omega),dS.lf⟩
   · exact ⟨_,Ap o2.rI (show w.heap.size ≤ F2 by omega),dS.li⟩
   · exact ⟨_,Ap o2.rF (show w.heap.size ≤ F2 by omega),dS.lf⟩
   · exact ⟨_,Ap o3.rI (show w.heap.size ≤ F3 by omega),tS.li⟩
   · exact ⟨_,Ap o3.rF (show w.heap.size ≤ F3 by omega),tS.lf⟩
   · exact ⟨_,Ap o4.rI (show w.heap.size ≤ F4 by omega),tS.li⟩
   · exact ⟨_,Ap o4.rF (show w.heap.size ≤ F4 by omega),tS.lf⟩
   · exact ⟨_,Ap o5.rI (show w.heap.size ≤ F5 by omega),pS.li⟩
   · exact ⟨_,Ap o5.rF (show w.heap.size ≤ F5 by omega),pS.lf⟩
   · exact ⟨_,Ap o6.rI (show w.heap.size ≤ F6 by omega),pS.li⟩
   · exact ⟨_,Ap o6.rF (show w.heap.size ≤ F6 by omega),pS.lf⟩
  have aE : AllV Edge Edge.cells 4 67 w.heap.size vk2 [.slice y1.2.2.1.1 RD.edges.length y1.2.2.1.2,.slice y2.2.2.1.1 RD.edges.length y2.2.2.1.2,.slice y3.2.2.1.1 RT.edges.length y3.2.2.1.2,.slice y4.2.2.1.1 RT.edges.length y4.2.2.1.2,.slice y5.2.2.1.1 RP.edges.length y5.2.2.1.2,.slice y6.2.2.1.1 RP.edges.length y6.2.2.1.2] := by
   intro v hv
   simp only [List.mem_cons,List.not_mem_nil,or_false] at hv
   rcases hv with rfl | rfl | rfl | rfl | rfl | rfl
   · exact ⟨_,Ap o1.rE (show w.heap.size ≤ F1 by omega),dS.le⟩
   · exact ⟨_,Ap o2.rE (show w.heap.size ≤ F2 by omega),dS.le⟩
   · exact ⟨_,Ap o3.rE (show w.heap.size ≤ F3 by omega),tS.le⟩
   · exact ⟨_,Ap o4.rE (show w.heap.size ≤ F4 by omega),tS.le⟩
   · exact ⟨_,Ap o5.rE (show w.heap.size ≤ F5 by omega),pS.le⟩
   · exact ⟨_,Ap o6.rE (show w.heap.size ≤ F6 by omega),pS.le⟩
  refine Dj rfl ?_
  refine Dj rfl ?_
  refine Dj rfl ?_
  refine cl Uf (Yq hbk KK35.size sT sI sE aT aI aE) ?_
  rintro _ vO ⟨rfl,cO⟩
  exact ⟨rfl,KK35.newS cO fun k hk => hk⟩
end Go.Au