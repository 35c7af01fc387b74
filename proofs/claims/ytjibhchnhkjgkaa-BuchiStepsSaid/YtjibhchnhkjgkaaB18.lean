/- Own text of this workplace: a part of the proofs of this place's statements. -/
import Derived.Test.YtjibhchnhkjgkaaB17
set_option linter.unusedVariables false
set_option linter.unusedSimpArgs false
set_option linter.unusedSectionVars false
namespace Go.Au
open Go Go.RowKit

/-! ### rows of rows -/
abbrev IntRowsB (lo hi : Nat) := RowE (fun w cs (xs : List Int) => ∃ u, cs = [u] ∧ Ints lo hi w u xs ∧ xs.length * 8 ≤ 140737488351232) 1 lo hi
theorem IntRowsB.rows {w : World} {lo hi : Nat} {v : Value} {xss : List (List Int)} (h : IntRowsB lo hi w v xss) : IntRows lo hi w v xss :=
  h.mono (fun _ xs ⟨u, h1, h2, h3⟩ => ⟨u, h1, h2, by omega⟩) (Nat.le_refl _) (Nat.le_refl _)
theorem IntRowsB.chg {S : Nat → Prop} {w w' : World} {lo hi : Nat} {v : Value} {xss : List (List Int)} (h : IntRowsB lo hi w v xss) (hc : Chg S w w') (hs : ∀ k, lo ≤ k → k < hi → ¬ S k) : IntRowsB lo hi w' v xss :=
  RowE.chg h hc hs fun _ _ ⟨u, h1, h2, h3⟩ => ⟨u, h1, h2.chg hc hs (fun _ _ h => h), h3⟩

abbrev m77 (b : Nat) : Value := .slice (some ⟨b, 0, none⟩) 1 1
def LentRows (lo hi : Nat) (w : World) (v : Value) (xss : List (List Int)) : Prop :=
  ∃ (b : Nat) (vs : List Value) (b77 : Nat), v = .slice (some ⟨b, 0, none⟩) xss.length (xss.length + 1) ∧ lo ≤ b ∧ b < hi ∧ Own w b 24 (vs ++ [m77 b77]) ∧ lo ≤ b77 ∧ b77 < hi ∧ Own w b77 3 [.int .i64 (-77)] ∧ vs.length = xss.length ∧ ∀ (i : Nat) (x : List Int), xss[i]? = some x → ∃ u : Value, vs[i]? = some u ∧ LentInts lo hi w u x ∧ x.length * 8 ≤ 140737488351232
theorem LentRows.chg {S : Nat → Prop} {w w' : World} {lo hi : Nat} {v : Value} {xss : List (List Int)} (h : LentRows lo hi w v xss) (hc : Chg S w w') (hs : ∀ k, lo ≤ k → k < hi → ¬ S k) : LentRows lo hi w' v xss := by
  obtain ⟨b, vs, b77, hv, h1, h2, h3, h4, h5, h6, h7, h8⟩ := h
  exact ⟨b, vs, b77, hv, h1, h2, hc.own h3 (hs b h1 h2), h4, h5, hc.own h6 (hs b77 h4 h5), h7, fun i x hx => by
    obtain ⟨u, g1, g2, g3⟩ := h8 i x hx
    exact ⟨u, g1, g2.chg hc hs, g3⟩⟩
theorem LentRows.mono {w : World} {lo hi lo' hi' : Nat} {v : Value} {xss : List (List Int)} (h : LentRows lo hi w v xss) (g1 : lo' ≤ lo) (g2 : hi ≤ hi') : LentRows lo' hi' w v xss := by
  obtain ⟨b, vs, b77, hv, h1, h2, h3, h4, h5, h6, h7, h8⟩ := h
  exact ⟨b, vs, b77, hv, by omega, by omega, h3, by omega, by omega, h6, h7, fun i x hx => by
    obtain ⟨u, k1, k2, k3⟩ := h8 i x hx
    exact ⟨u, k1, k2.mono g1 g2, k3⟩⟩
theorem rangeAt1 {w : World} {b : Nat} {t : TypeId} {cs : List Value} {i : Nat} {u : Value} (h : Own w b t cs) (hu : cs[i]? = some u) : w.rangeAt b (0 + i * 1) [u] := Own.one h hu (by omega)
theorem LentRows.row {w : World} {lo hi : Nat} {v : Value} {xss : List (List Int)} (h : LentRows lo hi w v xss) : IntRowsB lo hi w v xss := by
  obtain ⟨b, vs, b77, rfl, h1, h2, h3, h4, h5, h6, h7, h8⟩ := h
  refine ⟨_, _, rfl, by omega, fun i x hx => ?_⟩
  obtain ⟨u, k1, k2, k3⟩ := h8 i x hx
  exact ⟨b, 0, rfl, h1, h2, [u], rfl, rangeAt1 h3 (by rw [List.getElem?_append_left (List.getElem?_eq_some_iff.1 k1).1, k1]), u, rfl, k2.row (fun _ => rfl), k3⟩

abbrev vS (p : Nat × Nat × Nat) : Value := .slice (some ⟨p.1, 0, none⟩) p.2.1 p.2.2
abbrev fV (p : Nat × Nat × Nat) : List Value := [vS p]
theorem callLentRows : callable Proofs.Try.prog 49 = true := by kernel_rfl
theorem lentRows_c {w : World} {lo hi : Nat} {v : Value} {xss : List (List Int)} (h : IntRowsB lo hi w v xss) (hl : xss.length * 24 ≤ 140737488351232) :
    Calls Proofs.Try.prog 49 [v].toArray w (Ret fun r w' => Kp w w' ∧ LentRows w.heap.size w'.heap.size w' r xss) := by
  obtain ⟨a, cap, rfl, hcap, hx⟩ := h
  refine call agree Proofs.Try.func49 rfl Proofs.Try.ntmps49 (by kernel_rfl) ?_
  refine aw (by omega) (by omega) ?_
  refine ms agree rfl rfl rfl rfl rfl rfl (by omega) (by omega) (by show (24 : Int) * _ ≤ _; omega) (by omega) ?_
  intro b w1 e1 s1 k1 m1
  have hn2 : ((xss.length : Int) + 1).toNat = xss.length + 1 := by omega
  have own0 : w1.ownsRow w.heap.size 24 1 (.slice (some ⟨b, 0, none⟩) 0 (xss.length + 1)) 0 [] := ⟨rfl, .inr ⟨b, xss.length + 1, _, rfl, by omega, m1, by omega, by simp only [maxLen]; omega, by rw [hn2, List.size_toArray, rep_len]; rfl, by simp⟩⟩
  rw [hn2]
  refine loop agree (σ := Nat) (fun i => [(0, .slice a xss.length cap), (3, .slice (some ⟨b, 0, none⟩) i (xss.length + 1)), (4, .int .i64 i)])
    (fun i w' => Kp w w' ∧ b < w'.heap.size ∧ i ≤ xss.length ∧ ∃ vs : List Value, w'.ownsRow w.heap.size 24 1 (.slice (some ⟨b, 0, none⟩) i (xss.length + 1)) i vs ∧ vs.length = i ∧ ∀ (j : Nat) (x : List Int), (xss.take i)[j]? = some x → ∃ u : Value, vs[j]? = some u ∧ LentInts w.heap.size w'.heap.size w' u x ∧ x.length * 8 ≤ 140737488351232) (fun i => xss.length - i) 0
    ⟨rfl, rfl, rfl, trivial⟩ ⟨k1, by omega, by omega, [], own0, rfl, by simp⟩ ?_
  rintro i e0 w2 ⟨k2, hb2, hi, vs, o2, hvs, hin⟩
  refine sp (fun h3 => ?_) (fun h3 => ?_)
  · have hi' : i < xss.length := by omega
    obtain ⟨bx, ox, rfl, -, -, cs, hcs, hrd, u, rfl, hu, hul⟩ := hx i xss[i] (by simp)
    refine ne ⟨by omega, h3⟩ ?_
    refine ld agree (k2.range hrd id) (by rfl) ?_
    have hcall := lentInts_c (hu.chg k2 (fun _ _ _ h => h) (fun _ _ h => h)) hul
    refine cl callLentInts hcall ?_
    rintro r w3 ⟨k3, hr⟩
    have hr0 := hr
    obtain ⟨g, rfl, g1, g2, g3⟩ := hr
    refine ne (by decide) ?_
    refine nd fun q w4 e4 s4 k4 m4 => ?_
    have o4 := ownsRow_chg (ownsRow_chg o2 k3 fun _ _ h => h) k4 fun _ _ h => h
    have vrow : ∀ {W : World} {q : Nat} {z : Nat × Nat × Nat}, W.heap[q]? = some (.cells [vS z].toArray 24 (0, 0)) → RowE (fun _ cs x => cs = fV x) 1 0 W.heap.size W (.slice (some ⟨q, 0, none⟩) 1 1) [z] := fun h => own_row (f := fV) (l := [_]) (fun _ => rfl) (by decide) h (by simp [maxLen])
    refine apR (f := fV) (xs := [(g, xss[i].length, xss[i].length + 2)]) agree rfl rfl rfl rfl rfl rfl rfl (by decide) o4 (fun _ => rfl) (vrow m4) (fun _ => rfl) (by simp; omega) ?_
    intro w5 s5 o5 c5
    have k5 : Kp w w5 := (k2.trans (k3.trans k4)).newS c5 fun j hj => by omega
    refine aw (by omega) (by omega) ?_
    refine again (i + 1) ⟨rfl, rfl, rfl, trivial⟩ ⟨k5, by have := k3.size; omega, by omega, vs ++ [vS (g, xss[i].length, xss[i].length + 2)], o5, by simp [hvs], fun j x hj => ?_⟩ (by omega)
    have hT : ∀ b' cs, Own w4 b' 3 cs → ¬ b' = b := by
      rintro b' cs hb' rfl
      exact ownsRow_ne o4 hb' (fun cs fr hc => by injection hc with _ h2; exact absurd h2 (by decide)) rfl
    have hj' := (List.getElem?_eq_some_iff.1 hj).1
    simp only [List.length_take] at hj'
    rcases Nat.lt_or_ge j i with hji | hji
    · obtain ⟨u', p1, p2, p3⟩ := hin j x (by rw [List.getElem?_take, if_pos hji]; rw [List.getElem?_take, if_pos (by omega)] at hj; exact hj)
      exact ⟨u', by rw [List.getElem?_append_left (by omega), p1], (((p2.chg k3 (fun _ _ _ h => h)).chg k4 (fun _ _ _ h => h)).chgT c5 hT).mono (Nat.le_refl _) (by have := k3.size; omega), p3⟩
    · have : j = i := by omega
      subst this
      rw [List.getElem?_take, if_pos (by omega), List.getElem?_eq_getElem hi'] at hj
      cases hj
      exact ⟨_, by rw [List.getElem?_append_right (by omega), hvs, Nat.sub_self]; rfl, ((hr0.chg k4 (fun _ _ _ h => h)).chgT c5 hT).mono k2.size (by omega), hul⟩
  · have hin' : i = xss.length := by omega
    subst hin'
    rw [List.take_of_length_le (Nat.le_refl _)] at hin
    refine ne (by decide) ?_
    refine nd fun b77 w3 e3 s3 k3 m3 => ?_
    refine ne (by decide) ?_
    refine nd fun q w4 e4 s4 k4 m4 => ?_
    have o4 := ownsRow_chg (ownsRow_chg o2 k3 fun _ _ h => h) k4 fun _ _ h => h
    have vrow : ∀ {W : World} {q : Nat} {z : Nat × Nat × Nat}, W.heap[q]? = some (.cells [vS z].toArray 24 (0, 0)) → RowE (fun _ cs x => cs = fV x) 1 0 W.heap.size W (.slice (some ⟨q, 0, none⟩) 1 1) [z] := fun h => own_row (f := fV) (l := [_]) (fun _ => rfl) (by decide) h (by simp [maxLen])
    refine apR (f := fV) (xs := [(b77, 1, 1)]) agree rfl rfl rfl rfl rfl rfl rfl (by decide) o4 (fun _ => rfl) (vrow m4) (fun _ => rfl) (by simp) ?_
    intro w5 s5 o5 c5
    have k5 : Kp w w5 := (k2.trans (k3.trans k4)).newS c5 fun j hj => by omega
    have hT : ∀ b' cs, Own w4 b' 3 cs → ¬ b' = b := by
      rintro b' cs hb' rfl
      exact ownsRow_ne o4 hb' (fun cs fr hc => by injection hc with _ h2; exact absurd h2 (by decide)) rfl
    obtain ⟨o6, hlo⟩ := ownsRow_full (show w5.ownsRow w.heap.size 24 1 (.slice (some ⟨b, 0, none⟩) (xss.length + 1) (xss.length + 1)) (xss.length + 1) (vs ++ [m77 b77]) from o5)
    have hown77 : Own w4 b77 3 [.int .i64 (-77)] := k4.own m3 id
    refine ne ⟨by omega, by omega, by omega⟩ ?_
    refine ⟨k5, b, vs, b77, rfl, hlo, lt_of_heap o6, o6, by have := k2.size; omega, by omega, c5.own hown77 (hT b77 _ hown77), hvs, fun j x hj => ?_⟩
    obtain ⟨u', p1, p2, p3⟩ := hin j x hj
    exact ⟨u', p1, (((p2.chg k3 (fun _ _ _ h => h)).chg k4 (fun _ _ _ h => h)).chgT c5 hT).mono (Nat.le_refl _) (by omega), p3⟩

theorem callWholeRows : callable Proofs.Try.prog 57 = true := by kernel_rfl
theorem wholeRows_c {w : World} {lo hi lo2 hi2 : Nat} {v u : Value} {xss : List (List Int)} (h : LentRows lo hi w v xss) (h' : IntRowsB lo2 hi2 w u xss) (hl : xss.length < 4611686018427387904) :
    Calls Proofs.Try.prog 57 [v, u].toArray w (Ret fun r w' => r = .bool true ∧ Kp w w') := by
  obtain ⟨b, vs, b77, rfl, h1, h2, h3, h4, h5, h6, h7, h8⟩ := h
  obtain ⟨a, cap, rfl, hcap, hx⟩ := h'
  refine call agree Proofs.Try.func57 rfl Proofs.Try.ntmps57 (by kernel_rfl) ?_
  have r1 : w.rangeAt b (0 + ((xss.length : Int)).toNat * 1) [m77 b77] := rangeAt1 h3 (by rw [Int.toNat_natCast, List.getElem?_append_right (by omega), h7, Nat.sub_self]; rfl)
  refine spF (by omega) ?_
  refine aw (by omega) (by omega) ?_
  refine spF (by omega) ?_
  refine aw (by omega) (by omega) ?_
  refine ne ⟨by omega, by omega, by omega⟩ ?_
  refine ne ⟨by omega, by omega⟩ ?_
  refine ld agree r1 (by rfl) ?_
  refine spF (by simp) ?_
  refine ne ⟨by omega, by omega⟩ ?_
  refine ld agree r1 (by rfl) ?_
  refine ne ⟨by decide, by decide⟩ ?_
  refine ld agree (Own.at_ (xs := [.int .i64 (-77)]) (o := 0) h6 rfl) (by rfl) ?_
  refine spF (by simp) ?_
  refine loop agree (σ := Nat) (fun i => [(0, .slice (some ⟨b, 0, none⟩) xss.length (xss.length + 1)), (1, .slice a xss.length cap), (6, .int .i64 i)])
    (fun i w' => Kp w w' ∧ i ≤ xss.length) (fun i => xss.length - i) 0 ⟨rfl, rfl, rfl, trivial⟩ ⟨Chg.refl _ _, by omega⟩ ?_
  rintro i e0 w1 ⟨k1, hi⟩
  refine sp (fun h9 => ?_) (fun h9 => ?_)
  · have hi' : i < xss.length := by omega
    obtain ⟨bx, ox, rfl, -, -, cs, hcs, hrd, u, rfl, hu, hul⟩ := hx i xss[i] (by simp)
    obtain ⟨u1, p1, p2, p3⟩ := h8 i xss[i] (by simp)
    refine drawn0 agree mixed 10 (by kernel_rfl) (fun _ => False) ?_
    conv => whnf
    refine ne ⟨by omega, by omega⟩ ?_
    conv => whnf
    refine ldk agree rfl rfl (fun W h _ => rangeAt1 (i := i) ((k1.trans h).own h3 id) (u := u1) (by rw [List.getElem?_append_left (List.getElem?_eq_some_iff.1 p1).1, p1])) (by rfl) fun _ => ?_
    conv => whnf
    refine ne ⟨by omega, by omega⟩ ?_
    conv => whnf
    refine ldk agree rfl rfl (fun W h _ => (k1.trans h).range hrd id) (by rfl) fun _ => ?_
    conv => whnf
    refine callk (v := .bool true) rfl rfl rfl callWholeInts (fun W h _ => wholeInts_c (p2.chg (k1.trans h) fun _ _ _ h => h) (hu.chg (k1.trans h) (fun _ _ _ h => h) (fun _ _ h => h)) (by omega)) fun _ => ?_
    conv => whnf
    intro W h _
    refine aw (by omega) (by omega) ?_
    exact again (i + 1) ⟨rfl, rfl, rfl, trivial⟩ ⟨k1.trans h, by omega⟩ (by omega)
  · exact ⟨rfl, k1⟩

theorem callSpoilRows : callable Proofs.Try.prog 61 = true := by kernel_rfl
/-- rows that can be written over -/
def WellRows (lo hi : Nat) (w : World) (v : Value) (n : Nat) : Prop :=
  ∃ b cap cur, v = .slice (some ⟨b, 0, none⟩) n cap ∧ lo ≤ b ∧ b < hi ∧ n ≤ cap ∧ cap < 4611686018427387904 ∧ Own w b 24 cur ∧ cur.length = cap ∧ ∀ i, i < n → ∃ u m, cur[i]? = some u ∧ WellT Ty 3 1 lo hi w u m
theorem LentRows.well {w : World} {lo hi : Nat} {v : Value} {xss : List (List Int)} (h : LentRows lo hi w v xss) (hl : xss.length < 17592186044416) : WellRows lo hi w v xss.length := by
  obtain ⟨b, vs, b77, rfl, h1, h2, h3, h4, h5, h6, h7, h8⟩ := h
  refine ⟨b, _, _, rfl, h1, h2, by omega, by omega, h3, by simp [h7], fun i hi => ?_⟩
  obtain ⟨u, p1, p2, p3⟩ := h8 i xss[i] (by simp)
  exact ⟨u, _, by rw [List.getElem?_append_left (List.getElem?_eq_some_iff.1 p1).1, p1], p2.wellT (fun _ => rfl) rfl (by omega) ⟨fun _ => ⟨xss[i] ++ [-771, -772], by simp⟩, by simp, by simp, by simp⟩⟩
theorem WellRows.keep {S : Nat → Prop} {w w' : World} {lo hi n : Nat} {v : Value} (h : WellRows lo hi w v n) (hc : Chg S w w') (hS : ∀ b cs, Own w b 24 cs → ¬ S b) (hs : Shp Ty w w') : WellRows lo hi w' v n := by
  obtain ⟨b, cap, cur, hv, h1, h2, h3, h4, h5, h6, h7⟩ := h
  exact ⟨b, cap, cur, hv, h1, h2, h3, h4, hc.own h5 (hS b cur h5), h6, fun i hi => by
    obtain ⟨u, m, p1, p2⟩ := h7 i hi
    exact ⟨u, m, p1, p2.shp hs⟩⟩
theorem spoilRows_c {w : World} {lo hi n : Nat} {v : Value} (h : WellRows lo hi w v n) (hhi : hi ≤ w.heap.size) :
    Calls Proofs.Try.prog 61 [v].toArray w (Ret fun _ w' => Chg (fun k => lo ≤ k ∧ k < hi) w w' ∧ (∀ b t cs, Own w b t cs → t ≠ 3 → t ≠ 24 → Own w' b t cs) ∧ Shp Ty w w' ∧ ∀ w'', Chg (fun k => hi ≤ k ∧ k < w.heap.size) w' w'' → IntRows lo w''.heap.size w'' v (List.replicate n [-5])) := by
  obtain ⟨b, cap, cur, rfl, h1, h2, h3, h4, h5, h6, h7⟩ := h
  refine call agree Proofs.Try.func61 rfl Proofs.Try.ntmps61 (by kernel_rfl) ?_
  refine loop agree (σ := Nat) (fun i => [(0, .slice (some ⟨b, 0, none⟩) n cap), (2, .int .i64 i)])
    (fun i w' => Chg (fun k => lo ≤ k ∧ k < hi) w w' ∧ i ≤ n ∧ (∀ b t cs, Own w b t cs → t ≠ 3 → t ≠ 24 → Own w' b t cs) ∧ Shp Ty w w' ∧ ∃ cur' : List Value, Own w' b 24 cur' ∧ cur'.length = cap ∧ (∀ j, j < i → ∃ q, cur'[j]? = some (m77 q) ∧ w.heap.size ≤ q ∧ q < w'.heap.size ∧ Own w' q 3 [.int .i64 (-5)]) ∧ ∀ j, i ≤ j → j < n → ∃ u m, cur'[j]? = some u ∧ WellT Ty 3 1 lo hi w' u m) (fun i => n - i) 0
    ⟨rfl, rfl, trivial⟩ ⟨Chg.refl _ _, by omega, fun _ _ _ h _ _ => h, Shp.refl _, cur, h5, h6, fun j hj => by omega, fun j _ hj => h7 j hj⟩ ?_
  rintro i e0 w1 ⟨k1, hin, hO1, hs1, cur', g1, g2, g3, g4⟩
  refine sp (fun h9 => ?_) (fun h9 => ?_)
  · obtain ⟨u, m, p1, p2⟩ := g4 i (Nat.le_refl _) (by omega)
    refine ne ⟨by omega, h9⟩ ?_
    refine ld agree (rangeAt1 (i := i) g1 p1) (by rfl) ?_
    have hcall := spoilInts_c p2.well
    refine cl callSpoilInts hcall ?_
    rintro r w2 ⟨bu, cu, q1, q2, q3, q4, q5⟩
    have hbu : lo ≤ bu ∧ bu < hi := by
      obtain ⟨b', _, _, rfl, l1, l2, _⟩ := p2
      have : b' = bu := by simpa [Value.ownBlock] using q1
      omega
    refine ne (by decide) ?_
    refine nd fun q w3 e3 s3 k3 m3 => ?_
    have hbb : b ≠ bu := own_ne g1 q2 (by decide)
    have g1' : Own w3 b 24 cur' := k3.own (q3.own g1 hbb) id
    have hw1 := k1.size
    refine ne ⟨by omega, h9⟩ ?_
    refine st agree (o := 0 + ((i : Int)).toNat * 1) g1' rfl (by rw [Int.toNat_natCast, g2]; show 0 + i * 1 + 1 ≤ _; omega) rfl ?_
    intro w4 s4 k4 m4
    have m4 : Own w4 b 24 (cur'.set i (m77 q)) := by
      have m4 : Own w4 b 24 (cur'.set (0 + ((i : Int)).toNat * 1) (m77 q)) := m4
      rwa [Int.toNat_natCast, show 0 + i * 1 = i by omega] at m4
    have m3 : Own w3 q 3 [.int .i64 (-5)] := m3
    have hqb : q ≠ b := by omega
    have ks : Chg (fun k => lo ≤ k ∧ k < hi) w1 w4 := ((q3.mono fun k hk => by omega).trans (k3.mono fun _ hf => hf.elim)).trans (k4.mono fun k hk => by omega)
    have hshp : Shp Ty w1 w4 := (q5.trans k3.shp).trans (shp_of k4 g1' m4 (by simp) ⟨by simp, by simp, by simp, by simp⟩)
    refine aw (by omega) (by omega) ?_
    refine again (i + 1) ⟨rfl, rfl, trivial⟩ ⟨k1.trans ks, by omega, fun b' t cs hb' t1 t2 => ?_, hs1.trans hshp, cur'.set i (m77 q), m4, by simp [g2], fun j hj => ?_, fun j hj1 hj2 => ?_⟩ (by omega)
    · have o1 := hO1 b' t cs hb' t1 t2
      exact k4.own (k3.own (q3.own o1 (own_ne o1 q2 t1)) id) (own_ne o1 g1 t2)
    · rcases Nat.lt_or_ge j i with hji | hji
      · obtain ⟨q', r1, r2, r3, r4⟩ := g3 j hji
        have hq'u : q' ≠ bu := by omega
        have hq'b : q' ≠ b := own_ne r4 g1 (by decide)
        exact ⟨q', by rw [List.getElem?_set_ne (by omega), r1], r2, by omega, k4.own (k3.own (q3.own r4 hq'u) id) hq'b⟩
      · have : j = i := by omega
        subst this
        exact ⟨q, by rw [List.getElem?_set_self (by omega)], by omega, by omega, k4.own m3 hqb⟩
    · obtain ⟨u', m', r1, r2⟩ := g4 j (by omega) hj2
      exact ⟨u', m', by rw [List.getElem?_set_ne (by omega), r1], r2.shp hshp⟩
  · have : i = n := by omega
    subst this
    refine ⟨k1, hO1, hs1, fun w'' kk => ⟨some ⟨b, 0, none⟩, cap, by rw [List.length_replicate], by simpa using h3, fun j x hx => ?_⟩⟩
    have hj : j < i := by have := (List.getElem?_eq_some_iff.1 hx).1; simpa using this
    have hx5 : x = [-5] := by
      rw [List.getElem?_replicate, if_pos hj] at hx
      exact (Option.some.inj hx).symm
    subst hx5
    obtain ⟨q, r1, r2, r3, r4⟩ := g3 j hj
    have g1 := kk.own g1 (by omega)
    refine ⟨b, 0, rfl, h1, lt_of_heap g1, [m77 q], rfl, rangeAt1 g1 r1, m77 q, rfl, ?_, by simp⟩
    exact (own_row (f := fI) (l := [-5]) (fun _ => rfl) (by decide) (kk.own r4 (by omega)) (by simp [maxLen])).lo1 (by omega)
end Go.Au
