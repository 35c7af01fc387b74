/- Own text of this workplace: a part of the proofs of this place's statements. -/
import Derived.Test.YtjibhchnhkjgkaaB34
set_option linter.unusedVariables false
set_option linter.unusedSimpArgs false
set_option linter.unusedSectionVars false
namespace Go.Au
open Go Go.RowKit

set_option maxHeartbeats 2000000 in
theorem lawLetters_c (w : World) (m no p : Int) : Calls Proofs.Try.prog 6 [.int .u16 m, .int .u16 no, .int .i64 p].toArray w (Ret fun r w' => r = .bool true ∧ Kp w w') := by
  refine call agree Proofs.Try.func6 rfl Proofs.Try.ntmps6 (by kernel_rfl) ?_
  refine nd fun b6 w1 e1 s1 k1 m6 => ?_
  have m6 : Own w1 b6 4 [.bool false] := m6
  refine cl callKnown (known_c w1) ?_
  rintro _ w2 ⟨rfl, k2⟩
  refine cl callRLetters (rletters_c w2 m no p) ?_
  have xs_le := lettersL_len m no p
  generalize hX : lettersL m no p = X at xs_le ⊢
  rintro _ w3 ⟨k3, a, c, rfl, hR⟩
  refine nd fun b8 w4 e4 s4 k4 m8 => ?_
  refine st agree m8 rfl (Nat.le_refl 1) rfl ?_
  intro w5 s5 k5 m8
  have m8 : Own w5 b8 42 [.slice a X.length c] := m8
  have k35 : Kp w3 w5 := k4.newS k5 fun j hj => by omega
  refine cl callLetters (letters_c w5 m no p) ?_
  rintro _ w6 ⟨k6, p1, p2, p3, rfl, hC⟩
  refine nd fun b9 w7 e7 s7 k7 m9 => ?_
  refine st agree m9 rfl (Nat.le_refl 1) rfl ?_
  intro w0 s8 k8 m9
  have m9 : Own w0 b9 56 [.func (.func 74) #[] #[pt p1 0, pt p2 0, pt p3 0]] := m9
  have k60 : Kp w6 w0 := k7.newS k8 fun j hj => by omega
  have k50 := k6.trans k60
  have k30 := k35.trans k50
  have k10 := (k2.trans k3).trans k30
  have m6 : Own w0 b6 4 [.bool false] := k10.own m6 id
  have m8 : Own w0 b8 42 [.slice a X.length c] := k50.own m8 id
  have hC : LetC p1 p2 p3 m no p w0 := ⟨k60.own hC.1 id, k60.own hC.2.1 id, k60.own hC.2.2 id⟩
  have K0 : Kp w w0 := k1.trans k10
  have it := lettersI p1 p2 p3 m no p
  rw [hX] at it
  obtain ⟨a', c', hac, -, hrow⟩ := hR
  obtain ⟨rfl, rfl⟩ : a' = a ∧ c' = c := by injection hac with h1 h2 h3; exact ⟨h1.symm, h3.symm⟩
  have hel : ∀ (i : Nat) (x : Int), X[i]? = some x → ∃ b o, a' = some ⟨b, o, none⟩ ∧ w0.rangeAt b (o + i * 1) [.int .u16 x] := fun i x hx => by
    obtain ⟨b, o, ha, -, -, cs, -, hrd, rfl⟩ := hrow i x hx
    exact ⟨b, o, ha, k30.range hrd id⟩
  have hpx : ∀ (pre : List Int) (x : Int), pre ++ [x] <+: X → X[pre.length]? = some x := fun pre x h => by
    obtain ⟨t, rfl⟩ := h
    simp
  have m6lt := Own.lt m6
  have m8lt := Own.lt m8
  have m9lt := Own.lt m9
  clear hrow hac k30 k35 k5 k4 k6 k7 k8 k3 k2
  refine ld agree (Own.at_ (xs := [.func (.func 74) #[] #[pt p1 0, pt p2 0, pt p3 0]]) (o := 0) m9 rfl) (by rfl) ?_
  refine fnNil agree rfl rfl rfl (by kernel_rfl) ?_
  refine nd fun bA v1 ev1 sv1 kv1 mA => ?_
  refine st agree mA rfl (Nat.le_refl 1) rfl ?_
  intro v2 sv2 kv2 mA
  have mA : Own v2 bA 3 [.int .i64 0] := mA
  refine loopM agree (σ := Nat × List Nat) (fun t => marksV t.2) (fun t => [(6, pt b6 0), (8, pt b8 0), (9, pt b9 0), (10, pt t.1 0)])
    (fun t W => Kp w0 W ∧ w0.heap.size ≤ t.1 ∧ Own W t.1 3 [.int .i64 (t.2.length : Nat)] ∧ t.2.length ≤ 2 ∧ (∀ d ∈ t.2, W.heap[d]? = some (.deferred (some [])) ∧ w0.heap.size ≤ d ∧ d < W.heap.size) ∧ t.2.Nodup) (fun t => 2 - t.2.length) (bA, [])
    rfl ⟨rfl, rfl, rfl, rfl, trivial⟩ ⟨kv1.newS kv2 fun j hj => by omega, by simp only; omega, mA, by simp, by simp, by simp⟩ ?_
  rintro ⟨b10, ds⟩ ee wA ⟨kA, hb10, m10, hdl, hds, hnd⟩
  simp only at hb10 m10 hdl hds hnd
  refine ld agree (Own.at_ (xs := [.int .i64 ds.length]) (o := 0) m10 rfl) (by rfl) ?_
  refine sp (fun hlt => ?_) (fun hge => ?_)
  · -- a round
    have zA := kA.size
    have m10lt := m10.lt
    refine nd fun b11 wB eB sB kB mB => ?_
    refine st agree mB rfl (Nat.le_refl 1) rfl ?_
    intro wR sR kR m11
    have m11 : Own wR b11 3 [.int .i64 0] := m11
    have k11R : Kp wA wR := kB.newS kR fun j hj => by omega
    have kwR : Kp w0 wR := kA.trans k11R
    have n9 := kwR.own m9 id
    refine ld agree (Own.at_ (xs := [.func (.func 74) #[] #[pt p1 0, pt p2 0, pt p3 0]]) (o := 0) n9 rfl) (by rfl) ?_
    have hb11 : wA.heap.size ≤ b11 ∧ b11 < wR.heap.size ∧ wR.heap.size = b11 + 1 := ⟨by omega, by omega, by omega⟩
    clear kB kR mB eB
    clear sB sR n9
    refine rangeF agree (cap := #[pt p1 0, pt p2 0, pt p3 0]) (xs := X) (enc := fU)
      (fun pre W => Chg (fun k => k = b11) wR W ∧ Own W b11 3 [.int .i64 (pre.length : Nat)])
      (fun x pre W => x = .exit 2 ∧ ds.length = 0 ∧ Chg (fun k => k = b11) wR W) rfl callLetters1 it (fun _ => rfl)
      (fun pre W W' h hk => ⟨h.1.newT hk fun j hj => .inr hj.1, hk.own h.2 (by omega)⟩)
      (fun x pre W W' h hk => ⟨h.1, h.2.1, h.2.2.newT hk fun j hj => .inr hj.1⟩)
      (fun pre W h => by
        have k := kwR.newS h.1 fun j hj => by omega
        exact ⟨k.own hC.1 id, k.own hC.2.1 id, k.own hC.2.2 id⟩) ⟨Chg.refl _ _, m11⟩ ?_ ?_ ?_
    · intro l pre x W hl ⟨hc, n11⟩ hpre hsz _
      refine ⟨rfl, fun W2 hs2 hc2 hl2 => ?_⟩
      have hk2 : Kp w0 W2 := (kwR.newS hc fun j hj => by omega).newS hc2 fun j hj => by have := kwR.size; omega
      have n8 := hk2.own m8 id
      have n9 := hk2.own m9 id
      have n10 : Own W2 b10 3 [.int .i64 ds.length] := hc2.own (hc.own (k11R.own m10 id) (by omega)) (by omega)
      have n11 : Own W2 b11 3 [.int .i64 (pre.length : Nat)] := hc2.own n11 (by omega)
      have hx := hpx _ _ hpre
      have hlX : pre.length < X.length := (List.getElem?_eq_some_iff.1 hx).1
      have hlen : (((pre ++ [x]).length : Nat) : Int) = pre.length + 1 := by simp
      obtain ⟨ba, oa, rfl, hrd⟩ := hel _ _ hx
      refine ld agree (Own.at_ (xs := [.int .i64 pre.length]) (o := 0) n11 rfl) (by rfl) ?_
      refine ld agree (Own.at_ (xs := [.slice (some ⟨ba, oa, none⟩) X.length c']) (o := 0) n8 rfl) (by rfl) ?_
      refine spF (by omega) ?_
      refine ld agree (Own.at_ (xs := [.slice (some ⟨ba, oa, none⟩) X.length c']) (o := 0) n8 rfl) (by rfl) ?_
      refine ld agree (Own.at_ (xs := [.int .i64 pre.length]) (o := 0) n11 rfl) (by rfl) ?_
      refine ne ⟨by omega, by omega⟩ ?_
      refine ld (v := .int .u16 x) agree (by rw [Int.toNat_natCast]; exact hk2.range hrd id) (by rfl) ?_
      refine spF (fun h => h rfl) ?_
      refine nd fun b13 w13 e13 s13 k13 m13 => ?_
      refine st agree m13 rfl (Nat.le_refl 1) rfl ?_
      intro wI s14 k14 m13
      have m13 : Own wI b13 3 [.int .i64 0] := m13
      have k2I : Kp W2 wI := k13.newS k14 fun j hj => by omega
      have kwI : Kp w0 wI := hk2.trans k2I
      refine ld agree (Own.at_ (xs := [.func (.func 74) #[] #[pt p1 0, pt p2 0, pt p3 0]]) (o := 0) (k2I.own n9 id) rfl) (by rfl) ?_
      have zs2 := hc.size
      have zwR := kwR.size
      refine rangeG agree (cap := #[pt p1 0, pt p2 0, pt p3 0]) (xs := X) (enc := fU) (by obtain ⟨r, hr⟩ := hl2; exact ⟨r, (k2I.block l (Array.getElem?_eq_some_iff.1 hr).1 id).trans hr⟩)
        (fun q V => Chg (fun k => k = b13) wI V ∧ Own V b13 3 [.int .i64 (q.length : Nat)] ∧ q.length ≤ 1)
        (fun y q V => y = .exit 4 ∧ Chg (fun k => k = b13) wI V) rfl callLetters1 it (fun _ => rfl)
        (fun q V V' h hk => ⟨h.1.newT hk fun j hj => .inr hj.1, hk.own h.2.1 (by omega), h.2.2⟩)
        (fun y q V V' h hk => ⟨h.1, h.2.newT hk fun j hj => .inr hj.1⟩)
        (fun q V h => by
          have k := kwI.newS h.1 fun j hj => by omega
          exact ⟨k.own hC.1 id, k.own hC.2.1 id, k.own hC.2.2 id⟩) ⟨Chg.refl _ _, m13, by simp⟩ ?_ ?_ ?_
      · intro l' q y V hl' ⟨hd, n13, hql⟩ hq hszV _
        refine ⟨rfl, fun V2 hsV hcV _ => ?_⟩
        have hkV : Kp w0 V2 := (kwI.newS hd fun j hj => by omega).newS hcV fun j hj => by have := kwI.size; omega
        have n8 := hkV.own m8 id
        have n13 : Own V2 b13 3 [.int .i64 (q.length : Nat)] := hcV.own n13 (by omega)
        have hy := hpx _ _ hq
        have hlY : q.length < X.length := (List.getElem?_eq_some_iff.1 hy).1
        have hlenq : (((q ++ [y]).length : Nat) : Int) = q.length + 1 := by simp
        obtain ⟨ba', oa', hba, hrd'⟩ := hel _ _ hy
        cases hba
        refine ld agree (Own.at_ (xs := [.slice (some ⟨ba, oa, none⟩) X.length c']) (o := 0) n8 rfl) (by rfl) ?_
        refine ld agree (Own.at_ (xs := [.int .i64 q.length]) (o := 0) n13 rfl) (by rfl) ?_
        refine ne ⟨by omega, by omega⟩ ?_
        refine ld (v := .int .u16 y) agree (by rw [Int.toNat_natCast]; exact hkV.range hrd' id) (by rfl) ?_
        refine spF (fun h => h rfl) ?_
        refine ld agree (Own.at_ (xs := [.int .i64 q.length]) (o := 0) n13 rfl) (by rfl) ?_
        have hdV : Chg (fun k => k = b13) wI V2 := hd.newT hcV fun j hj => .inr (by omega)
        refine sp (fun h1 => ?_) (fun h1 => ?_)
        · exact ⟨⟨rfl, hdV⟩, fun k _ _ => rfl⟩
        · refine ld agree (Own.at_ (xs := [.int .i64 q.length]) (o := 0) n13 rfl) (by rfl) ?_
          refine aw (by omega) (by omega) ?_
          refine st agree n13 rfl (Nat.le_refl 1) rfl ?_
          intro V3 sV3 kV3 n13
          have n13 : Own V3 b13 3 [.int .i64 ((q ++ [y]).length : Nat)] := by rw [hlenq]; exact n13
          exact ⟨⟨hdV.trans kV3, n13, by rw [List.length_append]; show q.length + 1 ≤ 1; omega⟩, fun k h1 h2 => kV3.block k (by have := hd.size; omega) (by omega)⟩
      · intro W5 ⟨c5, _, _⟩
        have k5 : Kp W2 W5 := (k13.newS k14 fun j hj => by omega).newS c5 fun j hj => by omega
        have n11 := k5.own n11 id
        refine ld agree (Own.at_ (xs := [.int .i64 pre.length]) (o := 0) n11 rfl) (by rfl) ?_
        refine aw (by omega) (by omega) ?_
        refine st agree n11 rfl (Nat.le_refl 1) rfl ?_
        intro W6 s6 k6 n11
        have n11 : Own W6 b11 3 [.int .i64 ((pre ++ [x]).length : Nat)] := by rw [hlen]; exact n11
        have c26 : Chg (fun k => k = b11) W2 W6 := (k5.mono fun _ h => h.elim).trans k6
        have hJn : Chg (fun k => k = b11) wR W6 ∧ Own W6 b11 3 [.int .i64 ((pre ++ [x]).length : Nat)] := ⟨(hc.newT hc2 fun j hj => .inr (by omega)).trans c26, n11⟩
        have hkb : keepB wR.heap.size (wR.heap.size + 2) W2 W6 := fun k h1 h2 => c26.block k (by omega) (by omega)
        have n10 : Own W6 b10 3 [.int .i64 ds.length] := k6.own (k5.own n10 id) (by omega)
        refine ld agree (Own.at_ (xs := [.int .i64 ds.length]) (o := 0) n10 rfl) (by rfl) ?_
        refine sp (fun h0 => ?_) (fun h0 => ?_)
        · refine ld agree (Own.at_ (xs := [.int .i64 ((pre ++ [x]).length : Nat)]) (o := 0) n11 rfl) (by rfl) ?_
          refine sp (fun h2 => ?_) (fun h2 => ?_)
          · exact ⟨⟨rfl, by omega, hJn.1⟩, hkb⟩
          · exact ⟨hJn, hkb⟩
        · exact ⟨hJn, hkb⟩
      · rintro W5 x5 q5 ⟨rfl, c5⟩
        have k5 : Kp W2 W5 := (k13.newS k14 fun j hj => by omega).newS c5 fun j hj => by omega
        have n11 := k5.own n11 id
        refine ld agree (Own.at_ (xs := [.int .i64 pre.length]) (o := 0) n11 rfl) (by rfl) ?_
        refine aw (by omega) (by omega) ?_
        refine st agree n11 rfl (Nat.le_refl 1) rfl ?_
        intro W6 s6 k6 n11
        have n11 : Own W6 b11 3 [.int .i64 ((pre ++ [x]).length : Nat)] := by rw [hlen]; exact n11
        have c26 : Chg (fun k => k = b11) W2 W6 := (k5.mono fun _ h => h.elim).trans k6
        have hJn : Chg (fun k => k = b11) wR W6 ∧ Own W6 b11 3 [.int .i64 ((pre ++ [x]).length : Nat)] := ⟨(hc.newT hc2 fun j hj => .inr (by omega)).trans c26, n11⟩
        have hkb : keepB wR.heap.size (wR.heap.size + 2) W2 W6 := fun k h1 h2 => c26.block k (by omega) (by omega)
        have n10 : Own W6 b10 3 [.int .i64 ds.length] := k6.own (k5.own n10 id) (by omega)
        refine ld agree (Own.at_ (xs := [.int .i64 ds.length]) (o := 0) n10 rfl) (by rfl) ?_
        refine sp (fun h0 => ?_) (fun h0 => ?_)
        · refine ld agree (Own.at_ (xs := [.int .i64 ((pre ++ [x]).length : Nat)]) (o := 0) n11 rfl) (by rfl) ?_
          refine sp (fun h2 => ?_) (fun h2 => ?_)
          · exact ⟨⟨rfl, by omega, hJn.1⟩, hkb⟩
          · exact ⟨hJn, hkb⟩
        · exact ⟨hJn, hkb⟩
    · intro D W hD ⟨hc, n11⟩ hdef
      have kW : Kp w0 W := kwR.newS hc fun j hj => by omega
      have hds' : ∀ d ∈ D :: ds, W.heap[d]? = some (.deferred (some [])) ∧ w0.heap.size ≤ d ∧ d < W.heap.size := fun d hd => by
        rcases List.mem_cons.1 hd with rfl | hd
        · exact ⟨hdef, by have := kwR.size; omega, (Array.getElem?_eq_some_iff.1 hdef).1⟩
        · obtain ⟨h1, h2, h3⟩ := hds d hd
          have := hc.size
          exact ⟨(hc.block d (by omega) (by omega)).trans ((k11R.block d h3 id).trans h1), h2, by omega⟩
      have hnd' : (D :: ds).Nodup := List.nodup_cons.2 ⟨fun hd => by have := (hds D hd).2.2; omega, hnd⟩
      have n10 : Own W b10 3 [.int .i64 ds.length] := hc.own (k11R.own m10 id) (by omega)
      have n8 := kW.own m8 id
      refine ld agree (Own.at_ (xs := [.int .i64 ds.length]) (o := 0) n10 rfl) (by rfl) ?_
      refine sp (fun h1 => ?_) (fun h1 => ?_)
      · refine ld agree (Own.at_ (xs := [.int .i64 X.length]) (o := 0) n11 rfl) (by rfl) ?_
        refine ld agree (Own.at_ (xs := [.slice a' X.length c']) (o := 0) n8 rfl) (by rfl) ?_
        refine spF (fun h => h rfl) ?_
        refine ld agree (Own.at_ (xs := [.int .i64 ds.length]) (o := 0) n10 rfl) (by rfl) ?_
        refine nd fun b12 wN eN sN kN mN => ?_
        refine st agree mN rfl (Nat.le_refl 1) rfl ?_
        intro wN2 sN2 kN2 mN
        have mN : Own wN2 b12 3 [.int .i64 ds.length] := mN
        refine ld agree (Own.at_ (xs := [.int .i64 ds.length]) (o := 0) mN rfl) (by rfl) ?_
        refine aw (by omega) (by omega) ?_
        refine st agree mN rfl (Nat.le_refl 1) rfl ?_
        intro wN3 sN3 kN3 mN
        have kZ : Kp W wN3 := (kN.newS kN2 fun j hj => by omega).newS kN3 fun j hj => by omega
        refine againM (b12, D :: ds) ⟨rfl, rfl, rfl, rfl, trivial⟩ rfl ⟨kW.trans kZ, by have := kW.size; simp only; omega, ?_, by simp only [List.length_cons]; omega, fun d hd => ?_, hnd'⟩ (by simp only [List.length_cons]; omega)
        · have : (((D :: ds).length : Nat) : Int) = ds.length + 1 := by simp
          simp only
          rw [this]
          exact mN
        · obtain ⟨h1, h2, h3⟩ := hds' d hd
          exact ⟨(kZ.block d h3 id).trans h1, h2, by have := kZ.size; omega⟩
      · skip
        refine ld agree (Own.at_ (xs := [.int .i64 ds.length]) (o := 0) n10 rfl) (by rfl) ?_
        refine nd fun b12 wN eN sN kN mN => ?_
        refine st agree mN rfl (Nat.le_refl 1) rfl ?_
        intro wN2 sN2 kN2 mN
        have mN : Own wN2 b12 3 [.int .i64 ds.length] := mN
        refine ld agree (Own.at_ (xs := [.int .i64 ds.length]) (o := 0) mN rfl) (by rfl) ?_
        refine aw (by omega) (by omega) ?_
        refine st agree mN rfl (Nat.le_refl 1) rfl ?_
        intro wN3 sN3 kN3 mN
        have kZ : Kp W wN3 := (kN.newS kN2 fun j hj => by omega).newS kN3 fun j hj => by omega
        refine againM (b12, D :: ds) ⟨rfl, rfl, rfl, rfl, trivial⟩ rfl ⟨kW.trans kZ, by have := kW.size; simp only; omega, ?_, by simp only [List.length_cons]; omega, fun d hd => ?_, hnd'⟩ (by simp only [List.length_cons]; omega)
        · have : (((D :: ds).length : Nat) : Int) = ds.length + 1 := by simp
          simp only
          rw [this]
          exact mN
        · obtain ⟨h1, h2, h3⟩ := hds' d hd
          exact ⟨(kZ.block d h3 id).trans h1, h2, by have := kZ.size; omega⟩
    · rintro D W x pre hD ⟨rfl, hd0, hc⟩ hdef
      have kW : Kp w0 W := kwR.newS hc fun j hj => by omega
      have hds' : ∀ d ∈ D :: ds, W.heap[d]? = some (.deferred (some [])) ∧ w0.heap.size ≤ d ∧ d < W.heap.size := fun d hd => by
        rcases List.mem_cons.1 hd with rfl | hd
        · exact ⟨hdef, by have := kwR.size; omega, (Array.getElem?_eq_some_iff.1 hdef).1⟩
        · obtain ⟨h1, h2, h3⟩ := hds d hd
          have := hc.size
          exact ⟨(hc.block d (by omega) (by omega)).trans ((k11R.block d h3 id).trans h1), h2, by omega⟩
      have hnd' : (D :: ds).Nodup := List.nodup_cons.2 ⟨fun hd => by have := (hds D hd).2.2; omega, hnd⟩
      have n10 : Own W b10 3 [.int .i64 ds.length] := hc.own (k11R.own m10 id) (by omega)
      have n8 := kW.own m8 id
      refine ld agree (Own.at_ (xs := [.int .i64 ds.length]) (o := 0) n10 rfl) (by rfl) ?_
      refine spF (by omega) ?_
      refine ld agree (Own.at_ (xs := [.int .i64 ds.length]) (o := 0) n10 rfl) (by rfl) ?_
      refine nd fun b12 wN eN sN kN mN => ?_
      refine st agree mN rfl (Nat.le_refl 1) rfl ?_
      intro wN2 sN2 kN2 mN
      have mN : Own wN2 b12 3 [.int .i64 ds.length] := mN
      refine ld agree (Own.at_ (xs := [.int .i64 ds.length]) (o := 0) mN rfl) (by rfl) ?_
      refine aw (by omega) (by omega) ?_
      refine st agree mN rfl (Nat.le_refl 1) rfl ?_
      intro wN3 sN3 kN3 mN
      have kZ : Kp W wN3 := (kN.newS kN2 fun j hj => by omega).newS kN3 fun j hj => by omega
      refine againM (b12, D :: ds) ⟨rfl, rfl, rfl, rfl, trivial⟩ rfl ⟨kW.trans kZ, by have := kW.size; simp only; omega, ?_, by simp only [List.length_cons]; omega, fun d hd => ?_, hnd'⟩ (by simp only [List.length_cons]; omega)
      · have : (((D :: ds).length : Nat) : Int) = ds.length + 1 := by simp
        simp only
        rw [this]
        exact mN
      · obtain ⟨h1, h2, h3⟩ := hds' d hd
        exact ⟨(kZ.block d h3 id).trans h1, h2, by have := kZ.size; omega⟩
  · -- the end
    have hdl2 : ds.length = 2 := by omega
    obtain ⟨d1, d0, rfl⟩ : ∃ d1 d0, ds = [d1, d0] := by
      match ds, hdl2 with
      | [d1, d0], _ => exact ⟨d1, d0, rfl⟩
    have n6 := kA.own m6 id
    refine st agree n6 rfl (Nat.le_refl 1) rfl ?_
    intro wF sF kF n6
    have n6 : Own wF b6 4 [.bool true] := n6
    refine ⟨fun d hd => ?_, hnd, fun w' hs' hk' => ?_⟩
    · obtain ⟨h1, h2, h3⟩ := hds d hd
      exact (kF.block d h3 (by omega)).trans h1
    · have hdd : ∀ d ∈ [d1, d0], w0.heap.size ≤ d := fun d hd => (hds d hd).2.1
      have n6 : Own w' b6 4 [.bool true] := hk'.own n6 (fun h => by have := hdd _ h; omega)
      refine ld agree (Own.at_ (xs := [.bool true]) (o := 0) n6 rfl) (by rfl) ?_
      have hb6 : w.heap.size ≤ b6 := by omega
      have kE : Kp w wF := (K0.trans kA).newS kF fun j hj => by omega
      exact ⟨rfl, kE.newS hk' fun j hj => by have := hdd _ hj; have := K0.size; omega⟩
end Go.Au
